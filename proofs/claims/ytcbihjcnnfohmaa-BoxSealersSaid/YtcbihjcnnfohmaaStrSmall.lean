/- The small case of this layer's statements: contract. -/
import Derived.Test.YtcbihjcnnfohmaaStrErr
import Derived.Test.YtcbihjcnnfohmaaStrVal
import Derived.Lib.SlBytesConst
namespace Go.Proofs.Ytcbihjcnnfohmaa.Str
open Go Go.ChangeShapes Go.WideShapes Go.ChangeAt Go.RowKit Go.Proofs.Ytcbihjcnnfohmaa.Aes
set_option linter.unusedVariables false
set_option linter.unusedSimpArgs false
def abc : List UInt8 := [97, 98, 99]
theorem K0_ok : KeyOk K0 := .inl rfl
theorem cnt10 : cntL 1 0 = [0, 0, 0, 0, 0, 0, 0, 1, 0, 0, 0, 0, 0, 0, 0, 0] := by decide
theorem cnt00 : cntL 0 0 = [0, 0, 0, 0, 0, 0, 0, 0, 0, 0, 0, 0, 0, 0, 0, 0] := by decide
theorem three {l : List UInt8} (h : l.length = 16) : l.take 3 = [at_ l 0, at_ l 1, at_ l 2] := by
  obtain ⟨a, b, c, d, e, f, g, i, j, k, l', m, n, o, p, q, rfl⟩ := sixteen h
  rfl
theorem abc_ne : xorS K0 1 0 abc ≠ abc := fun h => by
  have hl := padL_length K0_ok 1 0
  have hv : (padL K0 1 0).take 3 ≠ [0, 0, 0] := by unfold padL; rw [cnt10]; exact val1
  rw [three hl] at hv
  have e : ∀ i, i < 3 → abc.getD i 0 ^^^ at_ (padL K0 1 0) i = abc.getD i 0 := fun i hi => by
    have h1 := xorS_getD (key := K0) (nonce := 1) (a := 0) (p := abc) (i := i) hi
    rw [h, Nat.zero_add, Nat.div_eq_of_lt (by omega), Nat.mod_eq_of_lt (by omega)] at h1
    exact h1.symm
  have z : ∀ x y : UInt8, x ^^^ y = x → y = 0 := fun x y h => by
    have := congrArg (x ^^^ ·) h
    simpa [xcc8] using this
  exact hv (by rw [z _ _ (e 0 (by omega)), z _ _ (e 1 (by omega)), z _ _ (e 2 (by omega))])
theorem pad_first : at_ (padL K0 0 0) 0 = 102 := by
  have hv : (padL K0 0 0).take 1 = [102] := by unfold padL; rw [cnt00]; exact val2
  have hl := padL_length K0_ok 0 0
  have h3 : (padL K0 0 0).take 1 = [at_ (padL K0 0 0) 0] := by
    obtain ⟨a, b, c, d, e, f, g, i, j, k, l', m, n, o, p, q, he⟩ := sixteen hl
    rw [he]; rfl
  rw [h3] at hv
  injection hv
theorem marked_rd (w : World) (e : TypeId) (l : List UInt8) (m : Nat × Nat) : Rd (w.alloc (.cells (bvs l).toArray e m)) (w.heap.size + 1) (some ⟨w.heap.size, 0, none⟩) l := fun _ => by
  refine ⟨_, rfl, Nat.lt_succ_self _, fun j hj => ?_⟩
  rw [add_zero_block, cell_of_row _ w.heap.size j _ e m (heap_alloc_new w _)]
  simp [bvs, hj]
theorem own_rd_ {w : World} {base n c : Nat} {A : Option Addr} {l : List UInt8} (h : Own w 5 base (.slice A n c) l) : Rd w w.heap.size A l := by
  obtain ⟨A', c', e, hr, _⟩ := h.form
  injection e with e1 e2 e3
  subst e1
  exact hr
theorem alloc_size (w : World) (o : Obj) : (w.alloc o).heap.size = w.heap.size + 1 := by simp
set_option maxRecDepth 100000 in
set_option maxHeartbeats 2000000 in
theorem small_any (w : World) : Calls Try.prog 28 #[] w fun e w' => e = .returned (.bool true) ∧ Below w.heap.size w w' := by
  have hb0 : Below w.heap.size w (w.alloc (.cells (bvs K0).toArray 5)) := (Below.refl _ _).alloc (Nat.le_refl _) _
  have hk0 : Rd (w.alloc (.cells (bvs K0).toArray 5)) (w.heap.size + 1) (some ⟨w.heap.size, 0, none⟩) K0 := by
    have := (Row.new w 5 K0).rd
    simpa using this
  have hKN : (List.replicate 16 (0 : UInt8)) = K0 := rfl
  have HB0 := Lib.hid hb0
  have HK0 := Lib.hid hk0
  have HKN := Lib.hid hKN
  clear hb0 hk0 hKN
  obtain ⟨W0, hW0⟩ : ∃ W0 : World, w.alloc (.cells (bvs K0).toArray 5) = W0 := ⟨_, rfl⟩
  have HW0 := Lib.hid hW0
  rw [hW0] at HB0 HK0
  have hzw : w.heap.size + 1 = W0.heap.size := by rw [← hW0, alloc_size]
  clear hW0
  obtain ⟨Wm, hWm⟩ : ∃ Wm : World, W0.alloc (.cells (bvs abc).toArray 5 (3, 4)) = Wm := ⟨_, rfl⟩
  have HBm := Lib.hid (show Below W0.heap.size W0 Wm by rw [← hWm]; exact (Below.refl _ _).alloc (Nat.le_refl _) _)
  have hzm : W0.heap.size + 1 = Wm.heap.size := by rw [← hWm, alloc_size]
  have HRm := Lib.hid (show Rd Wm Wm.heap.size (some ⟨W0.heap.size, 0, none⟩) abc by rw [← hzm, ← hWm]; exact marked_rd W0 _ abc _)
  have kcv : (convert 22 22 (.slice (some ⟨W0.heap.size, 0, none⟩) 3 3)).run Try.prog (W0.alloc (.cells #[.int .u8 97, .int .u8 98, .int .u8 99] 5)) = .ok (.slice (some ⟨W0.heap.size, 0, none⟩) 3 3) Wm := by
    rw [← hWm]
    exact Lib.run_convert_bytes_const (P := Try.prog) W0 22 5 #[.int .u8 97, .int .u8 98, .int .u8 99] 3 3 Try.underlying22 Try.underlying5
  clear hWm
  have HZM := Lib.hid hzm
  have HZW := Lib.hid hzw
  clear hzm hzw
  go_enter Try.func28, Try.ntmps28
  go_wp2_with (with_reducible refine at_slot 8 ?_
               refine wpList_make_u8 Go.Proofs.Ytcbihjcnnfohmaa.u8 rfl _ _ rfl .i64 .i64 _ _ 16 16 rfl rfl rfl rfl (by omega) (by omega) ?_
               rw [HKN.out, HW0.out])
  have hzw := HZW.out
  have hzm := HZM.out
  have hbm := HB0.out.trans (HBm.out.mono (by omega))
  have hrm : Rd Wm Wm.heap.size (some ⟨w.heap.size, 0, none⟩) K0 := (HK0.out.below (hzw ▸ HBm.out)).more (by omega)
  refine (xor_yes (some ⟨w.heap.size, 0, none⟩) 16 16 K0 (some ⟨W0.heap.size, 0, none⟩) 3 3 abc 1 0 (by decide) (by decide) Wm rfl hrm K0_ok rfl (by decide) HRm.out).mono ?_
  rintro e w1 ⟨v1, rfl, ho1, hb1⟩
  have hl1 : (xorS K0 1 0 abc).length = 3 := by rw [xorS_length]; rfl
  obtain ⟨A1, c1, hv1, _, hcc1⟩ := ho1.form
  rw [hl1] at hv1 hcc1
  subst hv1
  have hz1 := hb1.size
  have hbw1 := hbm.trans (hb1.mono (by omega))
  have hr1 : Rd w1 w1.heap.size (some ⟨w.heap.size, 0, none⟩) K0 := (hrm.below hb1).more hz1
  have hox1 : Rd w1 w1.heap.size A1 (xorS K0 1 0 abc) := own_rd_ ho1
  have HO1 := Lib.hid ho1
  have HB1 := Lib.hid hbw1
  have HR1 := Lib.hid hr1
  have HX1 := Lib.hid hox1
  have HZ1 := Lib.hid (show w.heap.size ≤ w1.heap.size by omega)
  clear ho1 hbw1 hr1 hox1 hb1 hbm hrm hz1 hzw hzm
  go_wp2_with fail
  have hz1 := HZ1.out
  refine (xor_yes (some ⟨w.heap.size, 0, none⟩) 16 16 K0 A1 3 c1 (xorS K0 1 0 abc) 1 0 (by decide) (by decide) w1 rfl HR1.out K0_ok hl1 (by decide) HX1.out).mono ?_
  rintro e w2 ⟨v2, rfl, ho2, hb2⟩
  rw [xorS_twice] at ho2
  obtain ⟨A2, c2, hv2, _, hcc2⟩ := ho2.form
  rw [show abc.length = 3 from rfl] at hv2 hcc2
  subst hv2
  have hz2 := hb2.size
  have hbw2 := HB1.out.trans (hb2.mono (by omega))
  have hr2 := HR1.out.below hb2
  have HO1 := Lib.hid (HO1.out.below hb2)
  have HO2 := Lib.hid ho2
  have HB2 := Lib.hid hbw2
  have HR2 := Lib.hid (hr2.more hz2)
  have HZ2 := Lib.hid (show w.heap.size ≤ w2.heap.size by omega)
  clear ho2 hbw2 hr2 hb2 hz1 hz2
  go_wp2_with fail
  have hz2 := HZ2.out
  refine (pad_yes (some ⟨w.heap.size, 0, none⟩) 16 16 K0 0 0 (by decide) (by decide) w2 w2.heap.size (Nat.le_refl _) rfl HR2.out K0_ok).mono ?_
  rintro e w3 ⟨v3, rfl, ho3, hb3⟩
  have hl3 := padL_length K0_ok 0 0
  obtain ⟨A3, c3, hv3, _, hcc3⟩ := ho3.form
  rw [hl3] at hv3 hcc3
  subst hv3
  have hz3 := hb3.size
  have hbw3 := HB2.out.trans (hb3.mono (by omega))
  have s1 := own_str (HO1.out.below (hb3.mono (by omega)))
  have s2 := own_str (HO2.out.below hb3)
  have b1 := str_ne abc_ne
  obtain ⟨g, c', he3, _⟩ := own_g ho3 hl3 (by omega)
  injection he3 with e1 e2 e3
  subst e1
  have hc0 : w3.cell? ⟨g, 0, none⟩ = some (.int .u8 102) := by
    obtain ⟨ad, ha, _, hc⟩ := own_rd_ ho3 (by rw [hl3]; omega)
    injection ha with ha
    subst ha
    have := hc 0 (by rw [hl3]; omega)
    rw [add_zero_block] at this
    rw [this]
    have hp := pad_first
    unfold at_ at hp
    rw [List.getD_eq_getElem?_getD, List.getElem?_eq_getElem (by rw [hl3]; omega)] at hp
    rw [show (padL K0 0 0)[0]'(by rw [hl3]; omega) = 102 from hp]
    rfl
  have s2' : (convert 22 9 (.slice A2 3 c2)).run Try.prog w3 = .ok (.string { data := #[97, 98, 99] }) w3 := s2
  have s1' := s1
  have b1' : ((str (xorS K0 1 0 abc)).toList == [97, 98, 99]) = false := by rw [str_list]; exact beq_eq_false_iff_ne.2 abc_ne
  generalize str (xorS K0 1 0 abc) = tx at *
  have HBW := Lib.hid hbw3
  clear HO1 HO2 hbw3 s1 s2 b1 ho3 hb3 hz2 hz3 hcc3 e2 e3 hl3
  go_wp2_with fail
  go_ret
  exact ⟨rfl, HBW.out⟩
end Go.Proofs.Ytcbihjcnnfohmaa.Str
