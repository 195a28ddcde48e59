/- The law 'ShaCuts' answers true for every input, and its arguments read afterwards as before; no condition. The frame follows the kit's skeleton; the walk is ours. -/
import Derived.Test.YtoklpohpfoacpaaRows
import Derived.Test.YtoklpohpfoacpaaArgs
import Derived.Test.YtoklpohpfoacpaaShaTop
import Derived.Deep.RegionWith
import Derived.Deep.RegionHeld3
import Derived.Deep.DrawnRows
import Derived.WalkKit
import Derived.ProofKit
import Derived.OpenShut
import Derived.ShutString
import Derived.ChangeOld
import Derived.Below
import Derived.SizedLaws
namespace Go.Proofs.Ytoklpohpfoacpaa.shaCuts
open Go.ChangeShapes Go.WideShapes Go.ChangeAt Go.RowKit
set_option linter.unusedVariables false

theorem own : ownKnob Try.prog.godebug = none := by kernel_rfl
theorem laidOut : laidOutB Try.prog = true := by kernel_rfl

open Sha
attribute [local go_sem ↓] Go.wp_at_zero Go.wp_at_succ
set_option linter.unusedSimpArgs false
theorem sha_len (l : List UInt8) : (sha l).length = 32 := by
  unfold sha
  obtain ⟨a, b, c, d, e, f, g, i, h, _⟩ := (blocks_eight ((padded l).length / 64) hw_eight (padded l)).parts
  rw [h]; rfl
/-- what is read, in whatever block below -/
theorem oneP {w : World} {S : Nat → Prop} {A : Option Addr} {n c : Nat} {l : List UInt8} (hl : l.length = n) (hnc : n ≤ c) (hc : c ≤ 9223372036854775807) (h : RdS w S A l) : (⟨A, n, c, l⟩ : Part).l.length = (⟨A, n, c, l⟩ : Part).n ∧ (⟨A, n, c, l⟩ : Part).n ≤ (⟨A, n, c, l⟩ : Part).c ∧ (⟨A, n, c, l⟩ : Part).c ≤ 9223372036854775807 ∧ RdS w S (⟨A, n, c, l⟩ : Part).A (⟨A, n, c, l⟩ : Part).l := ⟨hl, hnc, hc, h⟩
/-- rows over arguments, for a digest made since -/
theorem farP {w wx : World} {g : Nat} {rv : Value} {ty : TypeId} {ps : List Part} (hb : Below w.heap.size w wx) (hg : w.heap.size ≤ g) (hgx : g < wx.heap.size) (hv : ∀ k, rv.ownBlock = some k → w.heap.size ≤ k ∧ k < wx.heap.size) (h : ∀ p ∈ ps, p.l.length = p.n ∧ p.n ≤ p.c ∧ p.c ≤ 9223372036854775807 ∧ Rd w w.heap.size p.A p.l) :
    PartsS (wx.alloc (.cells (ps.map Part.val).toArray ty)) (Far (wx.alloc (.cells (ps.map Part.val).toArray ty)) g rv) (some ⟨wx.heap.size, 0, none⟩) ps :=
  parts_new (S := fun k => k < w.heap.size) ty ps (fun p hp => by
    obtain ⟨h1, h2, h3, h4⟩ := h p hp
    exact ⟨h1, h2, h3, (h4.below hb).s (fun _ h => h)⟩) (fun k hk => Nat.lt_of_lt_of_le hk hb.size)
    ⟨by simp, fun e => by omega, fun e => by have := (hv _ e).2; omega⟩ (fun k hk => ⟨by have := hb.size; simp; omega, fun e => by omega, fun e => by have := (hv _ e).1; omega⟩)
theorem topP {w wx : World} {ty : TypeId} {ps : List Part} (hb : Below w.heap.size w wx) (h : ∀ p ∈ ps, p.l.length = p.n ∧ p.n ≤ p.c ∧ p.c ≤ 9223372036854775807 ∧ Rd w w.heap.size p.A p.l) :
    PartsS (wx.alloc (.cells (ps.map Part.val).toArray ty)) (fun k => k < (wx.alloc (.cells (ps.map Part.val).toArray ty)).heap.size) (some ⟨wx.heap.size, 0, none⟩) ps :=
  parts_new (S := fun k => k < w.heap.size) ty ps (fun p hp => by
    obtain ⟨h1, h2, h3, h4⟩ := h p hp
    exact ⟨h1, h2, h3, (h4.below hb).s (fun _ h => h)⟩) (fun k hk => Nat.lt_of_lt_of_le hk hb.size) (by simp) (fun k hk => by have := hb.size; simp; omega)

set_option maxRecDepth 100000 in
set_option maxHeartbeats 8000000 in
theorem walk (a0 : Option Addr) (len0 cap0 : Nat) (l0 : List UInt8) (a1 : Int) (a2 : Int) (w : World) (w0 : ArgB w a0 len0 cap0 l0) (w1 : (Lit.int .i64 a1).wf = true) (w2 : (Lit.int .i64 a2).wf = true) :
    Calls Try.prog 4 #[.slice a0 len0 cap0, .int .i64 a1, .int .i64 a2] w fun e w' => e = .returned (.bool true) ∧ Below w.heap.size w w' := by
  obtain ⟨hl0, hf0, hm0, hr0⟩ := w0
  obtain ⟨hb10, hb11⟩ := bounds_i64 w1
  obtain ⟨hb20, hb21⟩ := bounds_i64 w2
  clear w1 w2
  by_cases hbig : 65536 < len0
  · go_enter Try.func4, Try.ntmps4
    go_wp2_with (go_at_call 10; refine (small_any _).mono ?_; rintro e w1 ⟨rfl, hb1⟩)
    go_ret
    exact ⟨rfl, hb1⟩
  · have h16 : len0 ≤ 65536 := by omega
    clear hbig
    by_cases hneg : a1 < 0
    · go_enter Try.func4, Try.ntmps4
      go_wp2_with (go_at_call 10; refine (small_any _).mono ?_; rintro e w1 ⟨rfl, hb1⟩)
      go_ret
      exact ⟨rfl, hb1⟩
    · by_cases hord : a2 < a1
      · go_enter Try.func4, Try.ntmps4
        go_wp2_with (go_at_call 10; refine (small_any _).mono ?_; rintro e w1 ⟨rfl, hb1⟩)
        go_ret
        exact ⟨rfl, hb1⟩
      · by_cases hend : (len0 : Int) < a2
        · go_enter Try.func4, Try.ntmps4
          go_wp2_with (go_at_call 10; refine (small_any _).mono ?_; rintro e w1 ⟨rfl, hb1⟩)
          go_ret
          exact ⟨rfl, hb1⟩
        · obtain ⟨K, rfl⟩ := Int.eq_ofNat_of_zero_le (show 0 ≤ a1 by omega)
          obtain ⟨T, rfl⟩ := Int.eq_ofNat_of_zero_le (show 0 ≤ a2 by omega)
          have hKT : K ≤ T := by omega
          have hTl : T ≤ len0 := by omega
          have k0 : (0 : Int) ≤ (K : Int) := by omega
          have k1 : (K : Int) ≤ (T : Int) := by omega
          have k2 : (T : Int) ≤ (len0 : Int) := by omega
          have k3 : (len0 : Int) ≤ (cap0 : Int) := by omega
          have k4 : (K : Int) ≤ (cap0 : Int) := by omega
          have k5 : (T : Int) ≤ (cap0 : Int) := by omega
          have k6 : (0 : Int) ≤ (T : Int) := by omega
          have k7 : (K : Int) ≤ (len0 : Int) := by omega
          have ht1 : (l0.take K).length = K := by simp; omega
          have ht2 : ((l0.take T).drop K).length = T - K := by simp; omega
          have ht3 : (l0.drop T).length = len0 - T := by simp; omega
          have ht4 : (l0.drop K).length = len0 - K := by simp; omega
          have ecat : l0.take K ++ ((l0.take T).drop K ++ l0.drop T) = l0 := by
            have e1 : l0.take K = (l0.take T).take K := by rw [List.take_take, Nat.min_eq_left hKT]
            rw [e1, ← List.append_assoc, List.take_append_drop, List.take_append_drop]
          have hr1 := hr0.take K
          have hr2 := (hr0.take T).drop K (cap := cap0) (by simp; omega)
          have hr3 := hr0.drop T (cap := cap0) (by omega)
          have hr4 := hr0.drop K (cap := cap0) (by omega)
          clear hneg hord hend hb10 hb11 hb20 hb21
          by_cases hc1 : cap0 = K
          · subst hc1
            obtain rfl : T = cap0 := by omega
            obtain rfl : len0 = T := by omega
            rw [if_pos rfl] at hr2 hr4 hr3
            rw [Nat.sub_self] at ht2 ht3 ht4
            have HP1 := Lib.hid (show ∀ p ∈ [(⟨a0, len0, len0, l0.take len0⟩ : Part)], p.l.length = p.n ∧ p.n ≤ p.c ∧ p.c ≤ 9223372036854775807 ∧ Rd w w.heap.size p.A p.l from by
              intro p hp; simp only [List.mem_singleton] at hp; subst hp; exact ⟨ht1, (by show len0 ≤ len0; omega), (by show len0 ≤ 9223372036854775807; omega), hr1⟩)
            have HP2 := Lib.hid (show ∀ p ∈ [(⟨a0, 0, 0, (l0.take len0).drop len0⟩ : Part), ⟨a0, 0, 0, l0.drop len0⟩], p.l.length = p.n ∧ p.n ≤ p.c ∧ p.c ≤ 9223372036854775807 ∧ Rd w w.heap.size p.A p.l from by
              intro p hp; simp only [List.mem_cons, List.not_mem_nil, or_false] at hp
              rcases hp with rfl | rfl
              · exact ⟨ht2, (by show 0 ≤ 0; omega), (by show 0 ≤ 9223372036854775807; omega), hr2⟩
              · exact ⟨ht3, (by show 0 ≤ 0; omega), (by show 0 ≤ 9223372036854775807; omega), hr3⟩)
            have HP3 := Lib.hid (show ∀ p ∈ [(⟨a0, len0, len0, l0⟩ : Part)], p.l.length = p.n ∧ p.n ≤ p.c ∧ p.c ≤ 9223372036854775807 ∧ Rd w w.heap.size p.A p.l from by
              intro p hp; simp only [List.mem_singleton] at hp; subst hp; exact ⟨hl0, hf0, (by show len0 ≤ 9223372036854775807; omega), hr0⟩)
            have HP4 := Lib.hid (show ∀ p ∈ [(⟨a0, len0, len0, l0.take len0⟩ : Part), ⟨none, 0, 0, []⟩, ⟨a0, 0, 0, l0.drop len0⟩], p.l.length = p.n ∧ p.n ≤ p.c ∧ p.c ≤ 9223372036854775807 ∧ Rd w w.heap.size p.A p.l from by
              intro p hp; simp only [List.mem_cons, List.not_mem_nil, or_false] at hp
              rcases hp with rfl | rfl | rfl
              · exact ⟨ht1, (by show len0 ≤ len0; omega), (by show len0 ≤ 9223372036854775807; omega), hr1⟩
              · exact ⟨rfl, Nat.le_refl _, (by show 0 ≤ 9223372036854775807; omega), Rd.nil _ _ _⟩
              · exact ⟨ht4, (by show 0 ≤ 0; omega), (by show 0 ≤ 9223372036854775807; omega), hr4⟩)
            have HL0 := Lib.hid hl0
            have HT1 := Lib.hid ht1
            have HCAT := Lib.hid ecat
            have HE := Lib.hid (sha_len l0)
            clear ht1 ht2 ht3 ht4 ecat hr1 hr2 hr3 hr4 hl0 hr0
            go_enter Try.func4, Try.ntmps4
            go_wp2_with (first
              | (go_at_call 10; refine (small_any _).mono ?_; rintro e w1 ⟨rfl, hb1⟩)
              | (go_at_call 16
                 refine (new_any _).mono ?_
                 rintro e w2 ⟨g, rfl, hgb, hr2, hb2⟩
                 have H2 := Lib.hid (Hst.new (base := w.heap.size) hr2 (Nat.le_trans hb1.size hgb))
                 have hbw2 := hb1.trans (hb2.mono hb1.size)
                 have hg0 : w.heap.size ≤ g := Nat.le_trans hb1.size hgb
                 have hz2 := hbw2.size
                 clear hr2 hb2))
            refine (write_any g w.heap.size (.slice none 0 0) [] _ 1 1 [(⟨a0, len0, len0, l0.take len0⟩ : Part)] _ 0 (H2.out.below_ ((Below.refl _ _).alloc (Nat.le_refl _) _)) (farP hbw2 hg0 H2.out.row.lt (fun k hk => by cases hk) HP1.out) rfl (by omega) (by simp [bytesOf]; omega) (by simp [bytesOf]; omega) (by simp; omega)).mono ?_
            rintro e w3 ⟨rv3, rfl, hH3, hn3, hF3⟩
            have hbw3 : Below w.heap.size w w3 := (hbw2.alloc hz2 _).trans (hF3.toBelow (fun k hk => ⟨by simp; omega, fun e => by omega, fun e => by cases e⟩))
            have hz3 := hbw3.size
            rw [show ([] : List UInt8) ++ bytesOf [(⟨a0, len0, len0, l0.take len0⟩ : Part)] = l0.take len0 by simp [bytesOf], show 0 + (bytesOf [(⟨a0, len0, len0, l0.take len0⟩ : Part)]).length = (l0.take len0).length by simp [bytesOf]] at hH3
            have H3 := Lib.hid hH3
            clear hH3 hn3 hF3
            go_wp2_with fail
            refine (hsum_any g w.heap.size rv3 (l0.take len0) w3 H3.out (by have := HT1.out; omega)).mono ?_
            rintro e w4 ⟨v4, rfl, hO4, hb4⟩
            have hbw4 := hbw3.trans (hb4.mono hz3)
            have hz4 := hbw4.size
            have H4 := Lib.hid (H3.out.below_ hb4)
            clear hO4 hb4
            go_wp2_with fail
            go_region_held3 (fun _ => True) (trivial) (first
              | (go_at_call 17
                 have hP := farP (ty := 22) (w := w) (wx := w4.drew) (g := g) (rv := rv3) hbw4.drew hg0 H4.out.row.lt (fun k hk => H4.out.own.lt k hk) HP2.out
                 refine (write_any g w.heap.size rv3 (l0.take len0) _ 2 2 _ _ (l0.take len0).length (Hst.below_ (w := w4.drew) H4.out.drew ((Below.refl _ _).alloc (Nat.le_refl _) _)) hP rfl (by omega) (by have := congrArg List.length HCAT.out; simp only [bytesOf, List.map_cons, List.map_nil, List.flatten_cons, List.flatten_nil, List.append_nil]; rw [List.length_append] at this; have := HL0.out; omega) (by have := congrArg List.length HCAT.out; simp only [bytesOf, List.map_cons, List.map_nil, List.flatten_cons, List.flatten_nil, List.append_nil]; rw [List.length_append] at this; have := HL0.out; omega) (by simp; omega)).mono ?_
                 rintro e w5 ⟨rv5, rfl, hH5, hn5, hF5⟩
                 have hbw5 : Below w.heap.size w w5 := ((hbw4.drew).alloc hz4 _).trans (hF5.toBelow (fun k hk => ⟨by simp; omega, fun e => by omega, fun e => by have := (H4.out.own.lt k e).1; omega⟩))
                 have hz5 := hbw5.size
                 rw [show l0.take len0 ++ bytesOf [(⟨a0, 0, 0, (l0.take len0).drop len0⟩ : Part), ⟨a0, 0, 0, l0.drop len0⟩] = l0 by simp only [bytesOf, List.map_cons, List.map_nil, List.flatten_cons, List.flatten_nil, List.append_nil]; exact HCAT.out,
                   show (l0.take len0).length + (bytesOf [(⟨a0, 0, 0, (l0.take len0).drop len0⟩ : Part), ⟨a0, 0, 0, l0.drop len0⟩]).length = l0.length by simp only [bytesOf, List.map_cons, List.map_nil, List.flatten_cons, List.flatten_nil, List.append_nil]; rw [← List.length_append, HCAT.out]] at hH5
                 have H5 := Lib.hid hH5
                 clear hH5 hn5 hF5 hP))
            go_wp2_with fail
            refine (shasum_any _ 1 1 _ _ (topP hbw5 HP3.out) rfl (by omega) (by simp [bytesOf]; have := HL0.out; omega)).mono ?_
            rw [show bytesOf [(⟨a0, len0, len0, l0⟩ : Part)] = l0 by simp [bytesOf]]
            rintro e w6 ⟨v6, rfl, hO6, hb6⟩
            obtain ⟨A6, c6, rfl, hR6, _⟩ := hO6.form
            rw [HE.out]
            have hb56 : Below w5.heap.size w5 w6 := ((Below.refl _ _).alloc (Nat.le_refl _) _).trans (hb6.mono (by simp))
            have hbw6 := hbw5.trans (hb56.mono hz5)
            have hz6 := hbw6.size
            have H6 := Lib.hid (H5.out.below_ hb56)
            have HR6 := Lib.hid hR6
            have hs6 : (convert 22 9 (.slice A6 (sha l0).length c6)).run Try.prog w6.drew = .ok (.string (str (sha l0))) w6.drew := Rd.str u8 9 Try.underlying9 (w := w6.drew) (B := w6.heap.size) hR6 c6
            rw [HE.out] at hs6
            clear hO6 hb6 hb56 hR6
            go_wp2_with fail
            refine wp_region_held_drew (S := fun w' => (convert 22 9 (.slice A6 32 c6)).run Try.prog w' = .ok (.string (str (sha l0))) w') (by kernel_rfl) (hs6) (fun hHeld => ?_)
            refine wpAnyH_take (i := 0) (v := ?_) rfl (by kernel_rfl) (by kernel_rfl) (by kernel_rfl) (fun _ _ _ h => h) (Or.inl ⟨by kernel_rfl, ?_⟩) (by assumption) ?_
            rotate_left
            · (intro w hSw; (try dsimp only at hSw); go_simp; first | done | with_reducible rfl)
            (try simp only [Act.put, List.setIfInBounds_toArray, List.set_cons_zero, List.set_cons_succ])
            refine wpAnyH_take (i := 1) (v := ?_) rfl (by kernel_rfl) (by kernel_rfl) (by kernel_rfl) (fun _ _ _ h => h) (Or.inl ⟨by kernel_rfl, ?_⟩) (by assumption) ?_
            rotate_left
            · (intro w hSw; (try dsimp only at hSw); go_simp; first | done | with_reducible rfl)
            (try simp only [Act.put, List.setIfInBounds_toArray, List.set_cons_zero, List.set_cons_succ])
            refine wpAnyH_take (i := 2) (v := ?_) rfl (by kernel_rfl) (by kernel_rfl) (by kernel_rfl) (fun _ _ _ h => h) (Or.inl ⟨by kernel_rfl, ?_⟩) (by assumption) ?_
            rotate_left
            · (intro w hSw; (try dsimp only at hSw); go_simp; first | done | with_reducible rfl)
            (try simp only [Act.put, List.setIfInBounds_toArray, List.set_cons_zero, List.set_cons_succ])
            refine wpAnyH_take (i := 3) (v := ?_) rfl (by kernel_rfl) (by kernel_rfl) (by kernel_rfl) (fun _ _ _ h => h) (Or.inl ⟨by kernel_rfl, ?_⟩) (by assumption) ?_
            rotate_left
            · (intro w hSw; (try dsimp only at hSw); go_simp; first | done | with_reducible rfl)
            (try simp only [Act.put, List.setIfInBounds_toArray, List.set_cons_zero, List.set_cons_succ])
            refine wpAnyH_take (i := 4) (v := ?_) rfl (by kernel_rfl) (by kernel_rfl) (by kernel_rfl) (fun _ _ _ h => h) (Or.inl ⟨by kernel_rfl, ?_⟩) (by assumption) ?_
            rotate_left
            · (intro w hSw; (try dsimp only at hSw); go_simp; first | done | with_reducible rfl)
            (try simp only [Act.put, List.setIfInBounds_toArray, List.set_cons_zero, List.set_cons_succ])
            refine wpAnyH_take (i := 7) (v := ?_) rfl (by kernel_rfl) (by kernel_rfl) (by kernel_rfl) (fun _ _ _ h => h) (Or.inl ⟨by kernel_rfl, ?_⟩) (by assumption) ?_
            rotate_left
            · (intro w hSw; (try dsimp only at hSw); go_simp; first | done | with_reducible rfl)
            (try simp only [Act.put, List.setIfInBounds_toArray, List.set_cons_zero, List.set_cons_succ])
            refine wpAnyH_take (i := 8) (v := ?_) rfl (by kernel_rfl) (by kernel_rfl) (by kernel_rfl) (fun _ _ _ h => h) (Or.inl ⟨by kernel_rfl, ?_⟩) (by assumption) ?_
            rotate_left
            · (intro w hSw; (try dsimp only at hSw); go_simp; first | done | with_reducible rfl)
            (try simp only [Act.put, List.setIfInBounds_toArray, List.set_cons_zero, List.set_cons_succ])
            refine wpAnyH_ready (rs := [5]) (by kernel_rfl) (by simp) ?_
            refine AllReadyH.cons rfl (fun KK hKK => ?_) AllReadyH.nil
            go_simp
            refine (hsum_any g w.heap.size rv5 l0 _ H6.out.drew (by have := HL0.out; omega)).mono ?_
            rintro e w7 ⟨v7, rfl, hO7, hb7⟩
            obtain ⟨A7, c7, rfl, hR7, _⟩ := hO7.form
            have hb67 : Below w6.heap.size w6 w7 := (Below.refl _ _).drew.trans (hb7.mono (by simp))
            have hbw7 := hbw6.trans (hb67.mono hz6)
            have hz7 := hbw7.size
            have hR67 := HR6.out.below hb67
            have hs7 := hR7.str u8 9 Try.underlying9 c7
            have hs67 := hR67.str u8 9 Try.underlying9 c6
            have hs67a := (hR67.alloc hb67.size (.cells #[.slice a0 len0 len0, .slice none 0 0, .slice (a0) (0) (0)] 22)).str u8 9 Try.underlying9 c6
            rw [HE.out] at hs7 hs67 hs67a ⊢
            have HR7 := Lib.hid hR67
            have hz67 := hb67.size
            clear hO7 hb7 hb67 hR7 hR67
            go_wp2_with fail
            refine hKK.out _ _ ?_ (fun hHeld => ?_)
            · (assumption)
            clear hKK KK
            (try simp only [Act.put, List.setIfInBounds_toArray, List.set_cons_zero, List.set_cons_succ])
            refine wpAnyH_ready (rs := [6]) (by kernel_rfl) (by simp) ?_
            refine AllReadyH.cons rfl (fun KK hKK => ?_) AllReadyH.nil
            go_simp
            refine hKK.out _ _ ?_ (fun hHeld => ?_)
            · (assumption)
            clear hKK KK
            (try simp only [Act.put, List.setIfInBounds_toArray, List.set_cons_zero, List.set_cons_succ])
            refine wpAnyH_take (i := 9) (v := ?_) rfl (by kernel_rfl) (by kernel_rfl) (by kernel_rfl) (fun _ _ _ h => h) (Or.inl ⟨by kernel_rfl, ?_⟩) (by assumption) ?_
            rotate_left
            · (intro w hSw; (try dsimp only at hSw); go_simp; first | done | with_reducible rfl)
            (try simp only [Act.put, List.setIfInBounds_toArray, List.set_cons_zero, List.set_cons_succ])
            refine wpAnyH_take (i := 10) (v := ?_) rfl (by kernel_rfl) (by kernel_rfl) (by kernel_rfl) (fun _ _ _ h => h) (Or.inl ⟨by kernel_rfl, ?_⟩) (by assumption) ?_
            rotate_left
            · (intro w hSw; (try dsimp only at hSw); go_simp; first | done | with_reducible rfl)
            (try simp only [Act.put, List.setIfInBounds_toArray, List.set_cons_zero, List.set_cons_succ])
            refine wpAnyH_take (i := 11) (v := ?_) rfl (by kernel_rfl) (by kernel_rfl) (by kernel_rfl) (fun _ _ _ h => h) (Or.inl ⟨by kernel_rfl, ?_⟩) (by assumption) ?_
            rotate_left
            · (intro w hSw; (try dsimp only at hSw); go_simp; first | done | with_reducible rfl)
            (try simp only [Act.put, List.setIfInBounds_toArray, List.set_cons_zero, List.set_cons_succ])
            refine wpAnyH_take (i := 12) (v := ?_) rfl (by kernel_rfl) (by kernel_rfl) (by kernel_rfl) (fun _ _ _ h => h) (Or.inl ⟨by kernel_rfl, ?_⟩) (by assumption) ?_
            rotate_left
            · (intro w hSw; (try dsimp only at hSw); go_simp; first | done | with_reducible rfl)
            (try simp only [Act.put, List.setIfInBounds_toArray, List.set_cons_zero, List.set_cons_succ])
            refine wpAnyH_take (i := 13) (v := ?_) rfl (by kernel_rfl) (by kernel_rfl) (by kernel_rfl) (fun _ _ _ h => h) (Or.inl ⟨by kernel_rfl, ?_⟩) (by assumption) ?_
            rotate_left
            · (intro w hSw; (try dsimp only at hSw); go_simp; first | done | with_reducible rfl)
            (try simp only [Act.put, List.setIfInBounds_toArray, List.set_cons_zero, List.set_cons_succ])
            refine wpAnyH_take (i := 14) (v := ?_) rfl (by kernel_rfl) (by kernel_rfl) (by kernel_rfl) (fun _ _ _ h => h) (Or.inl ⟨by kernel_rfl, ?_⟩) (by assumption) ?_
            rotate_left
            · (intro w hSw; (try dsimp only at hSw); go_simp; first | done | with_reducible rfl)
            (try simp only [Act.put, List.setIfInBounds_toArray, List.set_cons_zero, List.set_cons_succ])
            refine wpAnyH_take (i := 15) (v := ?_) rfl (by kernel_rfl) (by kernel_rfl) (by kernel_rfl) (fun _ _ _ h => h) (Or.inl ⟨by kernel_rfl, ?_⟩) (by assumption) ?_
            rotate_left
            · (intro w hSw; (try dsimp only at hSw); go_simp; first | done | with_reducible rfl)
            (try simp only [Act.put, List.setIfInBounds_toArray, List.set_cons_zero, List.set_cons_succ])
            refine wpAnyH_take (i := 16) (v := ?_) rfl (by kernel_rfl) (by kernel_rfl) (by kernel_rfl) (fun _ _ _ h => h) (Or.inl ⟨by kernel_rfl, ?_⟩) (by assumption) ?_
            rotate_left
            · (intro w hSw; (try dsimp only at hSw); go_simp; first | done | with_reducible rfl)
            (try simp only [Act.put, List.setIfInBounds_toArray, List.set_cons_zero, List.set_cons_succ])
            refine wpAnyH_take (i := 17) (v := ?_) rfl (by kernel_rfl) (by kernel_rfl) (by kernel_rfl) (fun _ _ _ h => h) (Or.inl ⟨by kernel_rfl, ?_⟩) (by assumption) ?_
            rotate_left
            · (intro w hSw; (try dsimp only at hSw); go_simp; first | done | with_reducible rfl)
            (try simp only [Act.put, List.setIfInBounds_toArray, List.set_cons_zero, List.set_cons_succ])
            refine wpAnyH_take (i := 21) (v := ?_) rfl (by kernel_rfl) (by kernel_rfl) (by kernel_rfl) (fun _ _ _ h => h) (Or.inl ⟨by kernel_rfl, ?_⟩) (by assumption) ?_
            rotate_left
            · (intro w hSw; (try dsimp only at hSw); go_simp; first | done | with_reducible rfl)
            (try simp only [Act.put, List.setIfInBounds_toArray, List.set_cons_zero, List.set_cons_succ])
            refine wpAnyH_take (i := 22) (v := ?_) rfl (by kernel_rfl) (by kernel_rfl) (by kernel_rfl) (fun _ _ _ h => h) (Or.inl ⟨by kernel_rfl, ?_⟩) (by assumption) ?_
            rotate_left
            · (intro w hSw; (try dsimp only at hSw); go_simp; first | done | with_reducible rfl)
            (try simp only [Act.put, List.setIfInBounds_toArray, List.set_cons_zero, List.set_cons_succ])
            refine wpAnyH_ready (rs := [18]) (by kernel_rfl) (by simp) ?_
            refine AllReadyH.cons rfl (fun KK hKK => ?_) AllReadyH.nil
            go_simp
            refine hKK.out _ _ ?_ (fun hHeld => ?_)
            · (assumption)
            clear hKK KK
            (try simp only [Act.put, List.setIfInBounds_toArray, List.set_cons_zero, List.set_cons_succ])
            refine wpAnyH_ready (rs := [19]) (by kernel_rfl) (by simp) ?_
            refine AllReadyH.cons rfl (fun KK hKK => ?_) AllReadyH.nil
            go_simp
            refine (shasum_any _ 3 3 _ _ (topP hbw7 HP4.out) rfl (by omega) (by simp [bytesOf]; have := HL0.out; omega)).mono ?_
            rw [show bytesOf [(⟨a0, len0, len0, l0.take len0⟩ : Part), ⟨none, 0, 0, []⟩, ⟨a0, 0, 0, l0.drop len0⟩] = l0 by simp [bytesOf]]
            rintro e w8 ⟨v8, rfl, hO8, hb8⟩
            obtain ⟨A8, c8, rfl, hR8, _⟩ := hO8.form
            have hb78 : Below w7.heap.size w7 w8 := ((Below.refl _ _).alloc (Nat.le_refl _) _).trans (hb8.mono (by simp))
            have hbw8 := hbw7.trans (hb78.mono hz7)
            have hs8 := hR8.str u8 9 Try.underlying9 c8
            have hs68 := (HR7.out.below (hb78.mono hz67)).str u8 9 Try.underlying9 c6
            rw [HE.out] at hs8 hs68 ⊢
            clear hO8 hb8 hb78 hR8
            go_wp2_with fail
            refine hKK.out _ _ ?_ (fun hHeld => ?_)
            · (assumption)
            clear hKK KK
            (try simp only [Act.put, List.setIfInBounds_toArray, List.set_cons_zero, List.set_cons_succ])
            refine wpAnyH_ready (rs := [20]) (by kernel_rfl) (by simp) ?_
            refine AllReadyH.cons rfl (fun KK hKK => ?_) AllReadyH.nil
            go_simp
            refine hKK.out _ _ ?_ (fun hHeld => ?_)
            · (assumption)
            clear hKK KK
            (try simp only [Act.put, List.setIfInBounds_toArray, List.set_cons_zero, List.set_cons_succ])
            refine wpAnyH_ready (rs := [23]) (by kernel_rfl) (by simp) ?_
            refine AllReadyH.cons rfl (fun KK hKK => ?_) AllReadyH.nil
            go_simp
            refine hKK.out _ _ ?_ (fun hHeld => ?_)
            · (assumption)
            clear hKK KK
            (try simp only [Act.put, List.setIfInBounds_toArray, List.set_cons_zero, List.set_cons_succ])
            refine wpAnyH_ready (rs := [24]) (by kernel_rfl) (by simp) ?_
            refine AllReadyH.cons rfl (fun KK hKK => ?_) AllReadyH.nil
            go_simp
            refine hKK.out _ _ ?_ (fun hHeld => ?_)
            · (assumption)
            clear hKK KK
            (try simp only [Act.put, List.setIfInBounds_toArray, List.set_cons_zero, List.set_cons_succ])
            refine wpAnyH_ready (rs := [25]) (by kernel_rfl) (by simp) ?_
            refine AllReadyH.cons rfl (fun KK hKK => ?_) AllReadyH.nil
            go_simp
            refine hKK.out _ _ ?_ (fun hHeld => ?_)
            · (assumption)
            clear hKK KK
            (try simp only [Act.put, List.setIfInBounds_toArray, List.set_cons_zero, List.set_cons_succ])
            refine wpAnyH_done (by kernel_rfl) ?_ _
            go_wp2
            go_ret
            exact ⟨rfl, hbw8⟩
          · by_cases hc2 : cap0 = T
            · subst hc2
              obtain rfl : len0 = cap0 := by omega
              have e1 : (len0 = K) = False := by simp; omega
              rw [if_neg (by omega : ¬ len0 = K)] at hr2 hr4
              rw [if_pos rfl] at hr3
              rw [Nat.sub_self] at ht3
              have HP1 := Lib.hid (show ∀ p ∈ [(⟨a0, K, len0, l0.take K⟩ : Part)], p.l.length = p.n ∧ p.n ≤ p.c ∧ p.c ≤ 9223372036854775807 ∧ Rd w w.heap.size p.A p.l from by
                intro p hp; simp only [List.mem_singleton] at hp; subst hp; exact ⟨ht1, (by show K ≤ len0; omega), (by show len0 ≤ 9223372036854775807; omega), hr1⟩)
              have HP2 := Lib.hid (show ∀ p ∈ [(⟨a0.map (·.add K), len0 - K, len0 - K, (l0.take len0).drop K⟩ : Part), ⟨a0, 0, 0, l0.drop len0⟩], p.l.length = p.n ∧ p.n ≤ p.c ∧ p.c ≤ 9223372036854775807 ∧ Rd w w.heap.size p.A p.l from by
                intro p hp; simp only [List.mem_cons, List.not_mem_nil, or_false] at hp
                rcases hp with rfl | rfl
                · exact ⟨ht2, (by show len0 - K ≤ len0 - K; omega), (by show len0 - K ≤ 9223372036854775807; omega), hr2⟩
                · exact ⟨ht3, (by show 0 ≤ 0; omega), (by show 0 ≤ 9223372036854775807; omega), hr3⟩)
              have HP3 := Lib.hid (show ∀ p ∈ [(⟨a0, len0, len0, l0⟩ : Part)], p.l.length = p.n ∧ p.n ≤ p.c ∧ p.c ≤ 9223372036854775807 ∧ Rd w w.heap.size p.A p.l from by
                intro p hp; simp only [List.mem_singleton] at hp; subst hp; exact ⟨hl0, hf0, (by show len0 ≤ 9223372036854775807; omega), hr0⟩)
              have HP4 := Lib.hid (show ∀ p ∈ [(⟨a0, K, len0, l0.take K⟩ : Part), ⟨none, 0, 0, []⟩, ⟨a0.map (·.add K), len0 - K, len0 - K, l0.drop K⟩], p.l.length = p.n ∧ p.n ≤ p.c ∧ p.c ≤ 9223372036854775807 ∧ Rd w w.heap.size p.A p.l from by
                intro p hp; simp only [List.mem_cons, List.not_mem_nil, or_false] at hp
                rcases hp with rfl | rfl | rfl
                · exact ⟨ht1, (by show K ≤ len0; omega), (by show len0 ≤ 9223372036854775807; omega), hr1⟩
                · exact ⟨rfl, Nat.le_refl _, (by show 0 ≤ 9223372036854775807; omega), Rd.nil _ _ _⟩
                · exact ⟨ht4, (by show len0 - K ≤ len0 - K; omega), (by show len0 - K ≤ 9223372036854775807; omega), hr4⟩)
              have HL0 := Lib.hid hl0
              have HT1 := Lib.hid ht1
              have HCAT := Lib.hid ecat
              have HE := Lib.hid (sha_len l0)
              clear ht1 ht2 ht3 ht4 ecat hr1 hr2 hr3 hr4 hl0 hr0
              go_enter Try.func4, Try.ntmps4
              go_wp2_with (first
                | (go_at_call 10; refine (small_any _).mono ?_; rintro e w1 ⟨rfl, hb1⟩)
                | (go_at_call 16
                   refine (new_any _).mono ?_
                   rintro e w2 ⟨g, rfl, hgb, hr2, hb2⟩
                   have H2 := Lib.hid (Hst.new (base := w.heap.size) hr2 (Nat.le_trans hb1.size hgb))
                   have hbw2 := hb1.trans (hb2.mono hb1.size)
                   have hg0 : w.heap.size ≤ g := Nat.le_trans hb1.size hgb
                   have hz2 := hbw2.size
                   clear hr2 hb2))
              refine (write_any g w.heap.size (.slice none 0 0) [] _ 1 1 [(⟨a0, K, len0, l0.take K⟩ : Part)] _ 0 (H2.out.below_ ((Below.refl _ _).alloc (Nat.le_refl _) _)) (farP hbw2 hg0 H2.out.row.lt (fun k hk => by cases hk) HP1.out) rfl (by omega) (by simp [bytesOf]; omega) (by simp [bytesOf]; omega) (by simp; omega)).mono ?_
              rintro e w3 ⟨rv3, rfl, hH3, hn3, hF3⟩
              have hbw3 : Below w.heap.size w w3 := (hbw2.alloc hz2 _).trans (hF3.toBelow (fun k hk => ⟨by simp; omega, fun e => by omega, fun e => by cases e⟩))
              have hz3 := hbw3.size
              rw [show ([] : List UInt8) ++ bytesOf [(⟨a0, K, len0, l0.take K⟩ : Part)] = l0.take K by simp [bytesOf], show 0 + (bytesOf [(⟨a0, K, len0, l0.take K⟩ : Part)]).length = (l0.take K).length by simp [bytesOf]] at hH3
              have H3 := Lib.hid hH3
              clear hH3 hn3 hF3
              go_wp2_with fail
              refine (hsum_any g w.heap.size rv3 (l0.take K) w3 H3.out (by have := HT1.out; omega)).mono ?_
              rintro e w4 ⟨v4, rfl, hO4, hb4⟩
              have hbw4 := hbw3.trans (hb4.mono hz3)
              have hz4 := hbw4.size
              have H4 := Lib.hid (H3.out.below_ hb4)
              clear hO4 hb4
              go_wp2_with fail
              go_region_held3 (fun _ => True) (trivial) (first
                | (go_at_call 17
                   have hP := farP (ty := 22) (w := w) (wx := w4.drew) (g := g) (rv := rv3) hbw4.drew hg0 H4.out.row.lt (fun k hk => H4.out.own.lt k hk) HP2.out
                   refine (write_any g w.heap.size rv3 (l0.take K) _ 2 2 _ _ (l0.take K).length (Hst.below_ (w := w4.drew) H4.out.drew ((Below.refl _ _).alloc (Nat.le_refl _) _)) hP rfl (by omega) (by have := congrArg List.length HCAT.out; simp only [bytesOf, List.map_cons, List.map_nil, List.flatten_cons, List.flatten_nil, List.append_nil]; rw [List.length_append] at this; have := HL0.out; omega) (by have := congrArg List.length HCAT.out; simp only [bytesOf, List.map_cons, List.map_nil, List.flatten_cons, List.flatten_nil, List.append_nil]; rw [List.length_append] at this; have := HL0.out; omega) (by simp; omega)).mono ?_
                   rintro e w5 ⟨rv5, rfl, hH5, hn5, hF5⟩
                   have hbw5 : Below w.heap.size w w5 := ((hbw4.drew).alloc hz4 _).trans (hF5.toBelow (fun k hk => ⟨by simp; omega, fun e => by omega, fun e => by have := (H4.out.own.lt k e).1; omega⟩))
                   have hz5 := hbw5.size
                   rw [show l0.take K ++ bytesOf [(⟨a0.map (·.add K), len0 - K, len0 - K, (l0.take len0).drop K⟩ : Part), ⟨a0, 0, 0, l0.drop len0⟩] = l0 by simp only [bytesOf, List.map_cons, List.map_nil, List.flatten_cons, List.flatten_nil, List.append_nil]; exact HCAT.out,
                     show (l0.take K).length + (bytesOf [(⟨a0.map (·.add K), len0 - K, len0 - K, (l0.take len0).drop K⟩ : Part), ⟨a0, 0, 0, l0.drop len0⟩]).length = l0.length by simp only [bytesOf, List.map_cons, List.map_nil, List.flatten_cons, List.flatten_nil, List.append_nil]; rw [← List.length_append, HCAT.out]] at hH5
                   have H5 := Lib.hid hH5
                   clear hH5 hn5 hF5 hP))
              go_wp2_with fail
              refine (shasum_any _ 1 1 _ _ (topP hbw5 HP3.out) rfl (by omega) (by simp [bytesOf]; have := HL0.out; omega)).mono ?_
              rw [show bytesOf [(⟨a0, len0, len0, l0⟩ : Part)] = l0 by simp [bytesOf]]
              rintro e w6 ⟨v6, rfl, hO6, hb6⟩
              obtain ⟨A6, c6, rfl, hR6, _⟩ := hO6.form
              rw [HE.out]
              have hb56 : Below w5.heap.size w5 w6 := ((Below.refl _ _).alloc (Nat.le_refl _) _).trans (hb6.mono (by simp))
              have hbw6 := hbw5.trans (hb56.mono hz5)
              have hz6 := hbw6.size
              have H6 := Lib.hid (H5.out.below_ hb56)
              have HR6 := Lib.hid hR6
              have hs6 : (convert 22 9 (.slice A6 (sha l0).length c6)).run Try.prog w6.drew = .ok (.string (str (sha l0))) w6.drew := Rd.str u8 9 Try.underlying9 (w := w6.drew) (B := w6.heap.size) hR6 c6
              rw [HE.out] at hs6
              clear hO6 hb6 hb56 hR6
              go_wp2_with fail
              refine wp_region_held_drew (S := fun w' => (convert 22 9 (.slice A6 32 c6)).run Try.prog w' = .ok (.string (str (sha l0))) w') (by kernel_rfl) (hs6) (fun hHeld => ?_)
              refine wpAnyH_take (i := 0) (v := ?_) rfl (by kernel_rfl) (by kernel_rfl) (by kernel_rfl) (fun _ _ _ h => h) (Or.inl ⟨by kernel_rfl, ?_⟩) (by assumption) ?_
              rotate_left
              · (intro w hSw; (try dsimp only at hSw); go_simp; first | done | with_reducible rfl)
              (try simp only [Act.put, List.setIfInBounds_toArray, List.set_cons_zero, List.set_cons_succ])
              refine wpAnyH_take (i := 1) (v := ?_) rfl (by kernel_rfl) (by kernel_rfl) (by kernel_rfl) (fun _ _ _ h => h) (Or.inl ⟨by kernel_rfl, ?_⟩) (by assumption) ?_
              rotate_left
              · (intro w hSw; (try dsimp only at hSw); go_simp; first | done | with_reducible rfl)
              (try simp only [Act.put, List.setIfInBounds_toArray, List.set_cons_zero, List.set_cons_succ])
              refine wpAnyH_take (i := 2) (v := ?_) rfl (by kernel_rfl) (by kernel_rfl) (by kernel_rfl) (fun _ _ _ h => h) (Or.inl ⟨by kernel_rfl, ?_⟩) (by assumption) ?_
              rotate_left
              · (intro w hSw; (try dsimp only at hSw); go_simp; first | done | with_reducible rfl)
              (try simp only [Act.put, List.setIfInBounds_toArray, List.set_cons_zero, List.set_cons_succ])
              refine wpAnyH_take (i := 3) (v := ?_) rfl (by kernel_rfl) (by kernel_rfl) (by kernel_rfl) (fun _ _ _ h => h) (Or.inl ⟨by kernel_rfl, ?_⟩) (by assumption) ?_
              rotate_left
              · (intro w hSw; (try dsimp only at hSw); go_simp; first | done | with_reducible rfl)
              (try simp only [Act.put, List.setIfInBounds_toArray, List.set_cons_zero, List.set_cons_succ])
              refine wpAnyH_take (i := 4) (v := ?_) rfl (by kernel_rfl) (by kernel_rfl) (by kernel_rfl) (fun _ _ _ h => h) (Or.inl ⟨by kernel_rfl, ?_⟩) (by assumption) ?_
              rotate_left
              · (intro w hSw; (try dsimp only at hSw); go_simp; first | done | with_reducible rfl)
              (try simp only [Act.put, List.setIfInBounds_toArray, List.set_cons_zero, List.set_cons_succ])
              refine wpAnyH_take (i := 7) (v := ?_) rfl (by kernel_rfl) (by kernel_rfl) (by kernel_rfl) (fun _ _ _ h => h) (Or.inl ⟨by kernel_rfl, ?_⟩) (by assumption) ?_
              rotate_left
              · (intro w hSw; (try dsimp only at hSw); go_simp; first | done | with_reducible rfl)
              (try simp only [Act.put, List.setIfInBounds_toArray, List.set_cons_zero, List.set_cons_succ])
              refine wpAnyH_take (i := 8) (v := ?_) rfl (by kernel_rfl) (by kernel_rfl) (by kernel_rfl) (fun _ _ _ h => h) (Or.inl ⟨by kernel_rfl, ?_⟩) (by assumption) ?_
              rotate_left
              · (intro w hSw; (try dsimp only at hSw); go_simp; first | done | with_reducible rfl)
              (try simp only [Act.put, List.setIfInBounds_toArray, List.set_cons_zero, List.set_cons_succ])
              refine wpAnyH_ready (rs := [5]) (by kernel_rfl) (by simp) ?_
              refine AllReadyH.cons rfl (fun KK hKK => ?_) AllReadyH.nil
              go_simp
              refine (hsum_any g w.heap.size rv5 l0 _ H6.out.drew (by have := HL0.out; omega)).mono ?_
              rintro e w7 ⟨v7, rfl, hO7, hb7⟩
              obtain ⟨A7, c7, rfl, hR7, _⟩ := hO7.form
              have hb67 : Below w6.heap.size w6 w7 := (Below.refl _ _).drew.trans (hb7.mono (by simp))
              have hbw7 := hbw6.trans (hb67.mono hz6)
              have hz7 := hbw7.size
              have hR67 := HR6.out.below hb67
              have hs7 := hR7.str u8 9 Try.underlying9 c7
              have hs67 := hR67.str u8 9 Try.underlying9 c6
              have hs67a := (hR67.alloc hb67.size (.cells #[.slice a0 K len0, .slice none 0 0, .slice (a0.map (·.add K)) (len0 - K) (len0 - K)] 22)).str u8 9 Try.underlying9 c6
              rw [HE.out] at hs7 hs67 hs67a ⊢
              have HR7 := Lib.hid hR67
              have hz67 := hb67.size
              clear hO7 hb7 hb67 hR7 hR67
              go_wp2_with fail
              refine hKK.out _ _ ?_ (fun hHeld => ?_)
              · (assumption)
              clear hKK KK
              (try simp only [Act.put, List.setIfInBounds_toArray, List.set_cons_zero, List.set_cons_succ])
              refine wpAnyH_ready (rs := [6]) (by kernel_rfl) (by simp) ?_
              refine AllReadyH.cons rfl (fun KK hKK => ?_) AllReadyH.nil
              go_simp
              refine hKK.out _ _ ?_ (fun hHeld => ?_)
              · (assumption)
              clear hKK KK
              (try simp only [Act.put, List.setIfInBounds_toArray, List.set_cons_zero, List.set_cons_succ])
              refine wpAnyH_take (i := 9) (v := ?_) rfl (by kernel_rfl) (by kernel_rfl) (by kernel_rfl) (fun _ _ _ h => h) (Or.inl ⟨by kernel_rfl, ?_⟩) (by assumption) ?_
              rotate_left
              · (intro w hSw; (try dsimp only at hSw); go_simp; first | done | with_reducible rfl)
              (try simp only [Act.put, List.setIfInBounds_toArray, List.set_cons_zero, List.set_cons_succ])
              refine wpAnyH_take (i := 10) (v := ?_) rfl (by kernel_rfl) (by kernel_rfl) (by kernel_rfl) (fun _ _ _ h => h) (Or.inl ⟨by kernel_rfl, ?_⟩) (by assumption) ?_
              rotate_left
              · (intro w hSw; (try dsimp only at hSw); go_simp; first | done | with_reducible rfl)
              (try simp only [Act.put, List.setIfInBounds_toArray, List.set_cons_zero, List.set_cons_succ])
              refine wpAnyH_take (i := 11) (v := ?_) rfl (by kernel_rfl) (by kernel_rfl) (by kernel_rfl) (fun _ _ _ h => h) (Or.inl ⟨by kernel_rfl, ?_⟩) (by assumption) ?_
              rotate_left
              · (intro w hSw; (try dsimp only at hSw); go_simp; first | done | with_reducible rfl)
              (try simp only [Act.put, List.setIfInBounds_toArray, List.set_cons_zero, List.set_cons_succ])
              refine wpAnyH_take (i := 12) (v := ?_) rfl (by kernel_rfl) (by kernel_rfl) (by kernel_rfl) (fun _ _ _ h => h) (Or.inl ⟨by kernel_rfl, ?_⟩) (by assumption) ?_
              rotate_left
              · (intro w hSw; (try dsimp only at hSw); go_simp; first | done | with_reducible rfl)
              (try simp only [Act.put, List.setIfInBounds_toArray, List.set_cons_zero, List.set_cons_succ])
              refine wpAnyH_take (i := 13) (v := ?_) rfl (by kernel_rfl) (by kernel_rfl) (by kernel_rfl) (fun _ _ _ h => h) (Or.inl ⟨by kernel_rfl, ?_⟩) (by assumption) ?_
              rotate_left
              · (intro w hSw; (try dsimp only at hSw); go_simp; first | done | with_reducible rfl)
              (try simp only [Act.put, List.setIfInBounds_toArray, List.set_cons_zero, List.set_cons_succ])
              refine wpAnyH_take (i := 14) (v := ?_) rfl (by kernel_rfl) (by kernel_rfl) (by kernel_rfl) (fun _ _ _ h => h) (Or.inl ⟨by kernel_rfl, ?_⟩) (by assumption) ?_
              rotate_left
              · (intro w hSw; (try dsimp only at hSw); go_simp; first | done | with_reducible rfl)
              (try simp only [Act.put, List.setIfInBounds_toArray, List.set_cons_zero, List.set_cons_succ])
              refine wpAnyH_take (i := 15) (v := ?_) rfl (by kernel_rfl) (by kernel_rfl) (by kernel_rfl) (fun _ _ _ h => h) (Or.inl ⟨by kernel_rfl, ?_⟩) (by assumption) ?_
              rotate_left
              · (intro w hSw; (try dsimp only at hSw); go_simp; first | done | with_reducible rfl)
              (try simp only [Act.put, List.setIfInBounds_toArray, List.set_cons_zero, List.set_cons_succ])
              refine wpAnyH_take (i := 16) (v := ?_) rfl (by kernel_rfl) (by kernel_rfl) (by kernel_rfl) (fun _ _ _ h => h) (Or.inl ⟨by kernel_rfl, ?_⟩) (by assumption) ?_
              rotate_left
              · (intro w hSw; (try dsimp only at hSw); go_simp; first | done | with_reducible rfl)
              (try simp only [Act.put, List.setIfInBounds_toArray, List.set_cons_zero, List.set_cons_succ])
              refine wpAnyH_take (i := 17) (v := ?_) rfl (by kernel_rfl) (by kernel_rfl) (by kernel_rfl) (fun _ _ _ h => h) (Or.inl ⟨by kernel_rfl, ?_⟩) (by assumption) ?_
              rotate_left
              · (intro w hSw; (try dsimp only at hSw); go_simp; first | done | with_reducible rfl)
              (try simp only [Act.put, List.setIfInBounds_toArray, List.set_cons_zero, List.set_cons_succ])
              refine wpAnyH_take (i := 21) (v := ?_) rfl (by kernel_rfl) (by kernel_rfl) (by kernel_rfl) (fun _ _ _ h => h) (Or.inl ⟨by kernel_rfl, ?_⟩) (by assumption) ?_
              rotate_left
              · (intro w hSw; (try dsimp only at hSw); go_simp; first | done | with_reducible rfl)
              (try simp only [Act.put, List.setIfInBounds_toArray, List.set_cons_zero, List.set_cons_succ])
              refine wpAnyH_take (i := 22) (v := ?_) rfl (by kernel_rfl) (by kernel_rfl) (by kernel_rfl) (fun _ _ _ h => h) (Or.inl ⟨by kernel_rfl, ?_⟩) (by assumption) ?_
              rotate_left
              · (intro w hSw; (try dsimp only at hSw); go_simp; first | done | with_reducible rfl)
              (try simp only [Act.put, List.setIfInBounds_toArray, List.set_cons_zero, List.set_cons_succ])
              refine wpAnyH_ready (rs := [18]) (by kernel_rfl) (by simp) ?_
              refine AllReadyH.cons rfl (fun KK hKK => ?_) AllReadyH.nil
              go_simp
              refine hKK.out _ _ ?_ (fun hHeld => ?_)
              · (assumption)
              clear hKK KK
              (try simp only [Act.put, List.setIfInBounds_toArray, List.set_cons_zero, List.set_cons_succ])
              refine wpAnyH_ready (rs := [19]) (by kernel_rfl) (by simp) ?_
              refine AllReadyH.cons rfl (fun KK hKK => ?_) AllReadyH.nil
              go_simp
              refine (shasum_any _ 3 3 _ _ (topP hbw7 HP4.out) rfl (by omega) (by simp [bytesOf]; have := HL0.out; omega)).mono ?_
              rw [show bytesOf [(⟨a0, K, len0, l0.take K⟩ : Part), ⟨none, 0, 0, []⟩, ⟨a0.map (·.add K), len0 - K, len0 - K, l0.drop K⟩] = l0 by simp [bytesOf]]
              rintro e w8 ⟨v8, rfl, hO8, hb8⟩
              obtain ⟨A8, c8, rfl, hR8, _⟩ := hO8.form
              have hb78 : Below w7.heap.size w7 w8 := ((Below.refl _ _).alloc (Nat.le_refl _) _).trans (hb8.mono (by simp))
              have hbw8 := hbw7.trans (hb78.mono hz7)
              have hs8 := hR8.str u8 9 Try.underlying9 c8
              have hs68 := (HR7.out.below (hb78.mono hz67)).str u8 9 Try.underlying9 c6
              rw [HE.out] at hs8 hs68 ⊢
              clear hO8 hb8 hb78 hR8
              go_wp2_with fail
              refine hKK.out _ _ ?_ (fun hHeld => ?_)
              · (assumption)
              clear hKK KK
              (try simp only [Act.put, List.setIfInBounds_toArray, List.set_cons_zero, List.set_cons_succ])
              refine wpAnyH_ready (rs := [20]) (by kernel_rfl) (by simp) ?_
              refine AllReadyH.cons rfl (fun KK hKK => ?_) AllReadyH.nil
              go_simp
              refine hKK.out _ _ ?_ (fun hHeld => ?_)
              · (assumption)
              clear hKK KK
              (try simp only [Act.put, List.setIfInBounds_toArray, List.set_cons_zero, List.set_cons_succ])
              refine wpAnyH_ready (rs := [23]) (by kernel_rfl) (by simp) ?_
              refine AllReadyH.cons rfl (fun KK hKK => ?_) AllReadyH.nil
              go_simp
              refine hKK.out _ _ ?_ (fun hHeld => ?_)
              · (assumption)
              clear hKK KK
              (try simp only [Act.put, List.setIfInBounds_toArray, List.set_cons_zero, List.set_cons_succ])
              refine wpAnyH_ready (rs := [24]) (by kernel_rfl) (by simp) ?_
              refine AllReadyH.cons rfl (fun KK hKK => ?_) AllReadyH.nil
              go_simp
              refine hKK.out _ _ ?_ (fun hHeld => ?_)
              · (assumption)
              clear hKK KK
              (try simp only [Act.put, List.setIfInBounds_toArray, List.set_cons_zero, List.set_cons_succ])
              refine wpAnyH_ready (rs := [25]) (by kernel_rfl) (by simp) ?_
              refine AllReadyH.cons rfl (fun KK hKK => ?_) AllReadyH.nil
              go_simp
              refine hKK.out _ _ ?_ (fun hHeld => ?_)
              · (assumption)
              clear hKK KK
              (try simp only [Act.put, List.setIfInBounds_toArray, List.set_cons_zero, List.set_cons_succ])
              refine wpAnyH_done (by kernel_rfl) ?_ _
              go_wp2
              go_ret
              exact ⟨rfl, hbw8⟩
            · have e1 : (cap0 = K) = False := by simp; omega
              have e2 : (cap0 = T) = False := by simp; omega
              rw [if_neg (by omega : ¬ cap0 = K)] at hr2 hr4
              rw [if_neg (by omega : ¬ cap0 = T)] at hr3
              have HP1 := Lib.hid (show ∀ p ∈ [(⟨a0, K, cap0, l0.take K⟩ : Part)], p.l.length = p.n ∧ p.n ≤ p.c ∧ p.c ≤ 9223372036854775807 ∧ Rd w w.heap.size p.A p.l from by
                intro p hp; simp only [List.mem_singleton] at hp; subst hp; exact ⟨ht1, (by show K ≤ cap0; omega), (by show cap0 ≤ 9223372036854775807; omega), hr1⟩)
              have HP2 := Lib.hid (show ∀ p ∈ [(⟨a0.map (·.add K), T - K, cap0 - K, (l0.take T).drop K⟩ : Part), ⟨a0.map (·.add T), len0 - T, cap0 - T, l0.drop T⟩], p.l.length = p.n ∧ p.n ≤ p.c ∧ p.c ≤ 9223372036854775807 ∧ Rd w w.heap.size p.A p.l from by
                intro p hp; simp only [List.mem_cons, List.not_mem_nil, or_false] at hp
                rcases hp with rfl | rfl
                · exact ⟨ht2, (by show T - K ≤ cap0 - K; omega), (by show cap0 - K ≤ 9223372036854775807; omega), hr2⟩
                · exact ⟨ht3, (by show len0 - T ≤ cap0 - T; omega), (by show cap0 - T ≤ 9223372036854775807; omega), hr3⟩)
              have HP3 := Lib.hid (show ∀ p ∈ [(⟨a0, len0, cap0, l0⟩ : Part)], p.l.length = p.n ∧ p.n ≤ p.c ∧ p.c ≤ 9223372036854775807 ∧ Rd w w.heap.size p.A p.l from by
                intro p hp; simp only [List.mem_singleton] at hp; subst hp; exact ⟨hl0, hf0, (by show cap0 ≤ 9223372036854775807; omega), hr0⟩)
              have HP4 := Lib.hid (show ∀ p ∈ [(⟨a0, K, cap0, l0.take K⟩ : Part), ⟨none, 0, 0, []⟩, ⟨a0.map (·.add K), len0 - K, cap0 - K, l0.drop K⟩], p.l.length = p.n ∧ p.n ≤ p.c ∧ p.c ≤ 9223372036854775807 ∧ Rd w w.heap.size p.A p.l from by
                intro p hp; simp only [List.mem_cons, List.not_mem_nil, or_false] at hp
                rcases hp with rfl | rfl | rfl
                · exact ⟨ht1, (by show K ≤ cap0; omega), (by show cap0 ≤ 9223372036854775807; omega), hr1⟩
                · exact ⟨rfl, Nat.le_refl _, (by show 0 ≤ 9223372036854775807; omega), Rd.nil _ _ _⟩
                · exact ⟨ht4, (by show len0 - K ≤ cap0 - K; omega), (by show cap0 - K ≤ 9223372036854775807; omega), hr4⟩)
              have HL0 := Lib.hid hl0
              have HT1 := Lib.hid ht1
              have HCAT := Lib.hid ecat
              have HE := Lib.hid (sha_len l0)
              clear ht1 ht2 ht3 ht4 ecat hr1 hr2 hr3 hr4 hl0 hr0
              go_enter Try.func4, Try.ntmps4
              go_wp2_with (first
                | (go_at_call 10; refine (small_any _).mono ?_; rintro e w1 ⟨rfl, hb1⟩)
                | (go_at_call 16
                   refine (new_any _).mono ?_
                   rintro e w2 ⟨g, rfl, hgb, hr2, hb2⟩
                   have H2 := Lib.hid (Hst.new (base := w.heap.size) hr2 (Nat.le_trans hb1.size hgb))
                   have hbw2 := hb1.trans (hb2.mono hb1.size)
                   have hg0 : w.heap.size ≤ g := Nat.le_trans hb1.size hgb
                   have hz2 := hbw2.size
                   clear hr2 hb2))
              refine (write_any g w.heap.size (.slice none 0 0) [] _ 1 1 [(⟨a0, K, cap0, l0.take K⟩ : Part)] _ 0 (H2.out.below_ ((Below.refl _ _).alloc (Nat.le_refl _) _)) (farP hbw2 hg0 H2.out.row.lt (fun k hk => by cases hk) HP1.out) rfl (by omega) (by simp [bytesOf]; omega) (by simp [bytesOf]; omega) (by simp; omega)).mono ?_
              rintro e w3 ⟨rv3, rfl, hH3, hn3, hF3⟩
              have hbw3 : Below w.heap.size w w3 := (hbw2.alloc hz2 _).trans (hF3.toBelow (fun k hk => ⟨by simp; omega, fun e => by omega, fun e => by cases e⟩))
              have hz3 := hbw3.size
              rw [show ([] : List UInt8) ++ bytesOf [(⟨a0, K, cap0, l0.take K⟩ : Part)] = l0.take K by simp [bytesOf], show 0 + (bytesOf [(⟨a0, K, cap0, l0.take K⟩ : Part)]).length = (l0.take K).length by simp [bytesOf]] at hH3
              have H3 := Lib.hid hH3
              clear hH3 hn3 hF3
              go_wp2_with fail
              refine (hsum_any g w.heap.size rv3 (l0.take K) w3 H3.out (by have := HT1.out; omega)).mono ?_
              rintro e w4 ⟨v4, rfl, hO4, hb4⟩
              have hbw4 := hbw3.trans (hb4.mono hz3)
              have hz4 := hbw4.size
              have H4 := Lib.hid (H3.out.below_ hb4)
              clear hO4 hb4
              go_wp2_with fail
              go_region_held3 (fun _ => True) (trivial) (first
                | (go_at_call 17
                   have hP := farP (ty := 22) (w := w) (wx := w4.drew) (g := g) (rv := rv3) hbw4.drew hg0 H4.out.row.lt (fun k hk => H4.out.own.lt k hk) HP2.out
                   refine (write_any g w.heap.size rv3 (l0.take K) _ 2 2 _ _ (l0.take K).length (Hst.below_ (w := w4.drew) H4.out.drew ((Below.refl _ _).alloc (Nat.le_refl _) _)) hP rfl (by omega) (by have := congrArg List.length HCAT.out; simp only [bytesOf, List.map_cons, List.map_nil, List.flatten_cons, List.flatten_nil, List.append_nil]; rw [List.length_append] at this; have := HL0.out; omega) (by have := congrArg List.length HCAT.out; simp only [bytesOf, List.map_cons, List.map_nil, List.flatten_cons, List.flatten_nil, List.append_nil]; rw [List.length_append] at this; have := HL0.out; omega) (by simp; omega)).mono ?_
                   rintro e w5 ⟨rv5, rfl, hH5, hn5, hF5⟩
                   have hbw5 : Below w.heap.size w w5 := ((hbw4.drew).alloc hz4 _).trans (hF5.toBelow (fun k hk => ⟨by simp; omega, fun e => by omega, fun e => by have := (H4.out.own.lt k e).1; omega⟩))
                   have hz5 := hbw5.size
                   rw [show l0.take K ++ bytesOf [(⟨a0.map (·.add K), T - K, cap0 - K, (l0.take T).drop K⟩ : Part), ⟨a0.map (·.add T), len0 - T, cap0 - T, l0.drop T⟩] = l0 by simp only [bytesOf, List.map_cons, List.map_nil, List.flatten_cons, List.flatten_nil, List.append_nil]; exact HCAT.out,
                     show (l0.take K).length + (bytesOf [(⟨a0.map (·.add K), T - K, cap0 - K, (l0.take T).drop K⟩ : Part), ⟨a0.map (·.add T), len0 - T, cap0 - T, l0.drop T⟩]).length = l0.length by simp only [bytesOf, List.map_cons, List.map_nil, List.flatten_cons, List.flatten_nil, List.append_nil]; rw [← List.length_append, HCAT.out]] at hH5
                   have H5 := Lib.hid hH5
                   clear hH5 hn5 hF5 hP))
              go_wp2_with fail
              refine (shasum_any _ 1 1 _ _ (topP hbw5 HP3.out) rfl (by omega) (by simp [bytesOf]; have := HL0.out; omega)).mono ?_
              rw [show bytesOf [(⟨a0, len0, cap0, l0⟩ : Part)] = l0 by simp [bytesOf]]
              rintro e w6 ⟨v6, rfl, hO6, hb6⟩
              obtain ⟨A6, c6, rfl, hR6, _⟩ := hO6.form
              rw [HE.out]
              have hb56 : Below w5.heap.size w5 w6 := ((Below.refl _ _).alloc (Nat.le_refl _) _).trans (hb6.mono (by simp))
              have hbw6 := hbw5.trans (hb56.mono hz5)
              have hz6 := hbw6.size
              have H6 := Lib.hid (H5.out.below_ hb56)
              have HR6 := Lib.hid hR6
              have hs6 : (convert 22 9 (.slice A6 (sha l0).length c6)).run Try.prog w6.drew = .ok (.string (str (sha l0))) w6.drew := Rd.str u8 9 Try.underlying9 (w := w6.drew) (B := w6.heap.size) hR6 c6
              rw [HE.out] at hs6
              clear hO6 hb6 hb56 hR6
              go_wp2_with fail
              refine wp_region_held_drew (S := fun w' => (convert 22 9 (.slice A6 32 c6)).run Try.prog w' = .ok (.string (str (sha l0))) w') (by kernel_rfl) (hs6) (fun hHeld => ?_)
              refine wpAnyH_take (i := 0) (v := ?_) rfl (by kernel_rfl) (by kernel_rfl) (by kernel_rfl) (fun _ _ _ h => h) (Or.inl ⟨by kernel_rfl, ?_⟩) (by assumption) ?_
              rotate_left
              · (intro w hSw; (try dsimp only at hSw); go_simp; first | done | with_reducible rfl)
              (try simp only [Act.put, List.setIfInBounds_toArray, List.set_cons_zero, List.set_cons_succ])
              refine wpAnyH_take (i := 1) (v := ?_) rfl (by kernel_rfl) (by kernel_rfl) (by kernel_rfl) (fun _ _ _ h => h) (Or.inl ⟨by kernel_rfl, ?_⟩) (by assumption) ?_
              rotate_left
              · (intro w hSw; (try dsimp only at hSw); go_simp; first | done | with_reducible rfl)
              (try simp only [Act.put, List.setIfInBounds_toArray, List.set_cons_zero, List.set_cons_succ])
              refine wpAnyH_take (i := 2) (v := ?_) rfl (by kernel_rfl) (by kernel_rfl) (by kernel_rfl) (fun _ _ _ h => h) (Or.inl ⟨by kernel_rfl, ?_⟩) (by assumption) ?_
              rotate_left
              · (intro w hSw; (try dsimp only at hSw); go_simp; first | done | with_reducible rfl)
              (try simp only [Act.put, List.setIfInBounds_toArray, List.set_cons_zero, List.set_cons_succ])
              refine wpAnyH_take (i := 3) (v := ?_) rfl (by kernel_rfl) (by kernel_rfl) (by kernel_rfl) (fun _ _ _ h => h) (Or.inl ⟨by kernel_rfl, ?_⟩) (by assumption) ?_
              rotate_left
              · (intro w hSw; (try dsimp only at hSw); go_simp; first | done | with_reducible rfl)
              (try simp only [Act.put, List.setIfInBounds_toArray, List.set_cons_zero, List.set_cons_succ])
              refine wpAnyH_take (i := 4) (v := ?_) rfl (by kernel_rfl) (by kernel_rfl) (by kernel_rfl) (fun _ _ _ h => h) (Or.inl ⟨by kernel_rfl, ?_⟩) (by assumption) ?_
              rotate_left
              · (intro w hSw; (try dsimp only at hSw); go_simp; first | done | with_reducible rfl)
              (try simp only [Act.put, List.setIfInBounds_toArray, List.set_cons_zero, List.set_cons_succ])
              refine wpAnyH_take (i := 7) (v := ?_) rfl (by kernel_rfl) (by kernel_rfl) (by kernel_rfl) (fun _ _ _ h => h) (Or.inl ⟨by kernel_rfl, ?_⟩) (by assumption) ?_
              rotate_left
              · (intro w hSw; (try dsimp only at hSw); go_simp; first | done | with_reducible rfl)
              (try simp only [Act.put, List.setIfInBounds_toArray, List.set_cons_zero, List.set_cons_succ])
              refine wpAnyH_take (i := 8) (v := ?_) rfl (by kernel_rfl) (by kernel_rfl) (by kernel_rfl) (fun _ _ _ h => h) (Or.inl ⟨by kernel_rfl, ?_⟩) (by assumption) ?_
              rotate_left
              · (intro w hSw; (try dsimp only at hSw); go_simp; first | done | with_reducible rfl)
              (try simp only [Act.put, List.setIfInBounds_toArray, List.set_cons_zero, List.set_cons_succ])
              refine wpAnyH_ready (rs := [5]) (by kernel_rfl) (by simp) ?_
              refine AllReadyH.cons rfl (fun KK hKK => ?_) AllReadyH.nil
              go_simp
              refine (hsum_any g w.heap.size rv5 l0 _ H6.out.drew (by have := HL0.out; omega)).mono ?_
              rintro e w7 ⟨v7, rfl, hO7, hb7⟩
              obtain ⟨A7, c7, rfl, hR7, _⟩ := hO7.form
              have hb67 : Below w6.heap.size w6 w7 := (Below.refl _ _).drew.trans (hb7.mono (by simp))
              have hbw7 := hbw6.trans (hb67.mono hz6)
              have hz7 := hbw7.size
              have hR67 := HR6.out.below hb67
              have hs7 := hR7.str u8 9 Try.underlying9 c7
              have hs67 := hR67.str u8 9 Try.underlying9 c6
              have hs67a := (hR67.alloc hb67.size (.cells #[.slice a0 K cap0, .slice none 0 0, .slice (a0.map (·.add K)) (len0 - K) (cap0 - K)] 22)).str u8 9 Try.underlying9 c6
              rw [HE.out] at hs7 hs67 hs67a ⊢
              have HR7 := Lib.hid hR67
              have hz67 := hb67.size
              clear hO7 hb7 hb67 hR7 hR67
              go_wp2_with fail
              refine hKK.out _ _ ?_ (fun hHeld => ?_)
              · (assumption)
              clear hKK KK
              (try simp only [Act.put, List.setIfInBounds_toArray, List.set_cons_zero, List.set_cons_succ])
              refine wpAnyH_ready (rs := [6]) (by kernel_rfl) (by simp) ?_
              refine AllReadyH.cons rfl (fun KK hKK => ?_) AllReadyH.nil
              go_simp
              refine hKK.out _ _ ?_ (fun hHeld => ?_)
              · (assumption)
              clear hKK KK
              (try simp only [Act.put, List.setIfInBounds_toArray, List.set_cons_zero, List.set_cons_succ])
              refine wpAnyH_take (i := 9) (v := ?_) rfl (by kernel_rfl) (by kernel_rfl) (by kernel_rfl) (fun _ _ _ h => h) (Or.inl ⟨by kernel_rfl, ?_⟩) (by assumption) ?_
              rotate_left
              · (intro w hSw; (try dsimp only at hSw); go_simp; first | done | with_reducible rfl)
              (try simp only [Act.put, List.setIfInBounds_toArray, List.set_cons_zero, List.set_cons_succ])
              refine wpAnyH_take (i := 10) (v := ?_) rfl (by kernel_rfl) (by kernel_rfl) (by kernel_rfl) (fun _ _ _ h => h) (Or.inl ⟨by kernel_rfl, ?_⟩) (by assumption) ?_
              rotate_left
              · (intro w hSw; (try dsimp only at hSw); go_simp; first | done | with_reducible rfl)
              (try simp only [Act.put, List.setIfInBounds_toArray, List.set_cons_zero, List.set_cons_succ])
              refine wpAnyH_take (i := 11) (v := ?_) rfl (by kernel_rfl) (by kernel_rfl) (by kernel_rfl) (fun _ _ _ h => h) (Or.inl ⟨by kernel_rfl, ?_⟩) (by assumption) ?_
              rotate_left
              · (intro w hSw; (try dsimp only at hSw); go_simp; first | done | with_reducible rfl)
              (try simp only [Act.put, List.setIfInBounds_toArray, List.set_cons_zero, List.set_cons_succ])
              refine wpAnyH_take (i := 12) (v := ?_) rfl (by kernel_rfl) (by kernel_rfl) (by kernel_rfl) (fun _ _ _ h => h) (Or.inl ⟨by kernel_rfl, ?_⟩) (by assumption) ?_
              rotate_left
              · (intro w hSw; (try dsimp only at hSw); go_simp; first | done | with_reducible rfl)
              (try simp only [Act.put, List.setIfInBounds_toArray, List.set_cons_zero, List.set_cons_succ])
              refine wpAnyH_take (i := 13) (v := ?_) rfl (by kernel_rfl) (by kernel_rfl) (by kernel_rfl) (fun _ _ _ h => h) (Or.inl ⟨by kernel_rfl, ?_⟩) (by assumption) ?_
              rotate_left
              · (intro w hSw; (try dsimp only at hSw); go_simp; first | done | with_reducible rfl)
              (try simp only [Act.put, List.setIfInBounds_toArray, List.set_cons_zero, List.set_cons_succ])
              refine wpAnyH_take (i := 14) (v := ?_) rfl (by kernel_rfl) (by kernel_rfl) (by kernel_rfl) (fun _ _ _ h => h) (Or.inl ⟨by kernel_rfl, ?_⟩) (by assumption) ?_
              rotate_left
              · (intro w hSw; (try dsimp only at hSw); go_simp; first | done | with_reducible rfl)
              (try simp only [Act.put, List.setIfInBounds_toArray, List.set_cons_zero, List.set_cons_succ])
              refine wpAnyH_take (i := 15) (v := ?_) rfl (by kernel_rfl) (by kernel_rfl) (by kernel_rfl) (fun _ _ _ h => h) (Or.inl ⟨by kernel_rfl, ?_⟩) (by assumption) ?_
              rotate_left
              · (intro w hSw; (try dsimp only at hSw); go_simp; first | done | with_reducible rfl)
              (try simp only [Act.put, List.setIfInBounds_toArray, List.set_cons_zero, List.set_cons_succ])
              refine wpAnyH_take (i := 16) (v := ?_) rfl (by kernel_rfl) (by kernel_rfl) (by kernel_rfl) (fun _ _ _ h => h) (Or.inl ⟨by kernel_rfl, ?_⟩) (by assumption) ?_
              rotate_left
              · (intro w hSw; (try dsimp only at hSw); go_simp; first | done | with_reducible rfl)
              (try simp only [Act.put, List.setIfInBounds_toArray, List.set_cons_zero, List.set_cons_succ])
              refine wpAnyH_take (i := 17) (v := ?_) rfl (by kernel_rfl) (by kernel_rfl) (by kernel_rfl) (fun _ _ _ h => h) (Or.inl ⟨by kernel_rfl, ?_⟩) (by assumption) ?_
              rotate_left
              · (intro w hSw; (try dsimp only at hSw); go_simp; first | done | with_reducible rfl)
              (try simp only [Act.put, List.setIfInBounds_toArray, List.set_cons_zero, List.set_cons_succ])
              refine wpAnyH_take (i := 21) (v := ?_) rfl (by kernel_rfl) (by kernel_rfl) (by kernel_rfl) (fun _ _ _ h => h) (Or.inl ⟨by kernel_rfl, ?_⟩) (by assumption) ?_
              rotate_left
              · (intro w hSw; (try dsimp only at hSw); go_simp; first | done | with_reducible rfl)
              (try simp only [Act.put, List.setIfInBounds_toArray, List.set_cons_zero, List.set_cons_succ])
              refine wpAnyH_take (i := 22) (v := ?_) rfl (by kernel_rfl) (by kernel_rfl) (by kernel_rfl) (fun _ _ _ h => h) (Or.inl ⟨by kernel_rfl, ?_⟩) (by assumption) ?_
              rotate_left
              · (intro w hSw; (try dsimp only at hSw); go_simp; first | done | with_reducible rfl)
              (try simp only [Act.put, List.setIfInBounds_toArray, List.set_cons_zero, List.set_cons_succ])
              refine wpAnyH_ready (rs := [18]) (by kernel_rfl) (by simp) ?_
              refine AllReadyH.cons rfl (fun KK hKK => ?_) AllReadyH.nil
              go_simp
              refine hKK.out _ _ ?_ (fun hHeld => ?_)
              · (assumption)
              clear hKK KK
              (try simp only [Act.put, List.setIfInBounds_toArray, List.set_cons_zero, List.set_cons_succ])
              refine wpAnyH_ready (rs := [19]) (by kernel_rfl) (by simp) ?_
              refine AllReadyH.cons rfl (fun KK hKK => ?_) AllReadyH.nil
              go_simp
              refine (shasum_any _ 3 3 _ _ (topP hbw7 HP4.out) rfl (by omega) (by simp [bytesOf]; have := HL0.out; omega)).mono ?_
              rw [show bytesOf [(⟨a0, K, cap0, l0.take K⟩ : Part), ⟨none, 0, 0, []⟩, ⟨a0.map (·.add K), len0 - K, cap0 - K, l0.drop K⟩] = l0 by simp [bytesOf]]
              rintro e w8 ⟨v8, rfl, hO8, hb8⟩
              obtain ⟨A8, c8, rfl, hR8, _⟩ := hO8.form
              have hb78 : Below w7.heap.size w7 w8 := ((Below.refl _ _).alloc (Nat.le_refl _) _).trans (hb8.mono (by simp))
              have hbw8 := hbw7.trans (hb78.mono hz7)
              have hs8 := hR8.str u8 9 Try.underlying9 c8
              have hs68 := (HR7.out.below (hb78.mono hz67)).str u8 9 Try.underlying9 c6
              rw [HE.out] at hs8 hs68 ⊢
              clear hO8 hb8 hb78 hR8
              go_wp2_with fail
              refine hKK.out _ _ ?_ (fun hHeld => ?_)
              · (assumption)
              clear hKK KK
              (try simp only [Act.put, List.setIfInBounds_toArray, List.set_cons_zero, List.set_cons_succ])
              refine wpAnyH_ready (rs := [20]) (by kernel_rfl) (by simp) ?_
              refine AllReadyH.cons rfl (fun KK hKK => ?_) AllReadyH.nil
              go_simp
              refine hKK.out _ _ ?_ (fun hHeld => ?_)
              · (assumption)
              clear hKK KK
              (try simp only [Act.put, List.setIfInBounds_toArray, List.set_cons_zero, List.set_cons_succ])
              refine wpAnyH_ready (rs := [23]) (by kernel_rfl) (by simp) ?_
              refine AllReadyH.cons rfl (fun KK hKK => ?_) AllReadyH.nil
              go_simp
              refine hKK.out _ _ ?_ (fun hHeld => ?_)
              · (assumption)
              clear hKK KK
              (try simp only [Act.put, List.setIfInBounds_toArray, List.set_cons_zero, List.set_cons_succ])
              refine wpAnyH_ready (rs := [24]) (by kernel_rfl) (by simp) ?_
              refine AllReadyH.cons rfl (fun KK hKK => ?_) AllReadyH.nil
              go_simp
              refine hKK.out _ _ ?_ (fun hHeld => ?_)
              · (assumption)
              clear hKK KK
              (try simp only [Act.put, List.setIfInBounds_toArray, List.set_cons_zero, List.set_cons_succ])
              refine wpAnyH_ready (rs := [25]) (by kernel_rfl) (by simp) ?_
              refine AllReadyH.cons rfl (fun KK hKK => ?_) AllReadyH.nil
              go_simp
              refine hKK.out _ _ ?_ (fun hHeld => ?_)
              · (assumption)
              clear hKK KK
              (try simp only [Act.put, List.setIfInBounds_toArray, List.set_cons_zero, List.set_cons_succ])
              refine wpAnyH_done (by kernel_rfl) ?_ _
              go_wp2
              go_ret
              exact ⟨rfl, hbw8⟩

set_option maxRecDepth 100000 in
theorem lifted (os : Os) (started : os.Started) (H : Type) (enc : TypeId × Value → H) :
    ReturnsInHanded {} Try.checked os 4 .any (Rows.shaCutsSpec.pre6 enc Try.prog Try.f4 Rows.shaCutsRow.domain false) (Rows.shaCutsSpec.post enc Try.prog Try.f4 false true false false) := by
  refine returnsInHanded_of_change_sized (C := Try.checked) own started (by kernel_rfl) Try.func4
    (ChangeSpec.witness6 (enc := enc) (C := Try.checked) false ⟨#[], #[.slice none 0 0, .int .i64 0, .int .i64 0], []⟩ 8 (by kernel_rfl) (by kernel_rfl) (by kernel_rfl) (by kernel_rfl)) ?_
  intro W base args ds gs before hval0 hW hcnd hsz0 _
  have hval : ∀ (j : Nat) t v, Try.f4.params[j]? = some t → args[j]? = some v → Value.okWide Try.prog W .any base t v := hval0
  have hsz : (DataW.weightsEach Try.prog (Try.f4.params.toList ++ Rows.shaCutsSpec.plain.varTypes Try.prog) (ds ++ gs)).all (· ≤ reachBytes) = true := hsz0
  clear hsz0
  have hW' := hW
  obtain ⟨p, q, hA0, hV, rfl, hfz, hnd⟩ := hW
  have hA : DataW.TrodAll enc Try.prog W 0 (fun _ => true) true Try.f4.params.toList args.toList ds p := hA0
  rw [Try.params4] at hA hval hsz
  obtain ⟨v0, vs0, d0, ds0, p0, q0, hargs, rfl, rfl, h0, r0⟩ := trodAll_cons hA
  obtain ⟨v1, vs1, d1, ds1, p1, q1, rfl, rfl, rfl, h1, r1⟩ := trodAll_cons r0
  obtain ⟨v2, vs2, d2, ds2, p2, q2, rfl, rfl, rfl, h2, r2⟩ := trodAll_cons r1
  obtain ⟨rfl, rfl, rfl⟩ := trodAll_nil r2
  obtain rfl : args = #[v0, v1, v2] := by cases args; simp_all
  obtain ⟨rfl, rfl⟩ := trodVars_none hV
  obtain ⟨a0, len0, cap0, rfl⟩ := okWide_slice Try.underlying22 (hval 0 22 v0 rfl rfl)
  have k0 := h0
  have lt0 : ∀ x ∈ p0, x.block < W.heap.size := by obtain ⟨m, hm⟩ := k0; exact DataW.trod_lt m _ _ _ hm
  obtain ⟨l0, w0⟩ := open_bytes u8 (by kernel_rfl) (by kernel_rfl) h0 hsz (j := 0) rfl rfl
  clear hsz
  obtain ⟨a1, rfl, rfl, rfl, w1⟩ := open_int Try.underlying3 (hval 1 3 v1 rfl rfl) h1
  obtain ⟨a2, rfl, rfl, rfl, w2⟩ := open_int Try.underlying3 (hval 2 3 v2 rfl rfl) h2
  clear hA0 hval0
  simp only [List.append_nil] at hW'
  refine (walk a0 len0 cap0 l0 a1 a2 W w0 w1 w2).mono fun e W' ⟨he, bel⟩ => ?_
  subst he
  exact ⟨_, rfl, _, _, _, [], _, [], hW', trodAll_mk1 (shut_bool Try.underlying4 _), (trodAll_cons_mk (Below.trod laidOut (by kernel_rfl) (of_decide_eq_true (by kernel_rfl)) k0 bel lt0) (trodAll_cons_mk (shut_int Try.underlying3 w1) (trodAll_cons_mk (shut_int Try.underlying3 w2) trodAll_mk0))), rfl, bel.frame _, fun h => by cases h⟩

theorem over : Rows.shaCutsRow.holds Try.pinned (OpenSpec.ofChange Rows.shaCutsSpec) :=
  OpenClaim.holds_of_wide 4 Try.f4 rfl rfl rfl rfl rfl rfl rfl ⟨rfl, rfl, rfl, rfl, rfl⟩ rfl rfl rfl rfl rfl (by kernel_rfl) Try.func4 (by kernel_rfl)
    (of_decide_eq_true (by kernel_rfl)) (by unfold Func.isWrapper; first | (rw [if_pos (by decide +kernel)]; kernel_rfl) | (rw [if_neg (by decide +kernel)]; exact ⟨rfl, rfl⟩))
    (fun os started H enc _ => lifted os started H enc)

theorem proved : Rows.ShaCutsSaid := over
end Go.Proofs.Ytoklpohpfoacpaa.shaCuts
