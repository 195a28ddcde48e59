/- The small case of this layer's statements. -/
import Derived.Test.YtcbihjcnnfohmaaAesRounds
import Derived.Deep.RegionWith
import Derived.Deep.RegionHeld3
namespace Go.Proofs.Ytcbihjcnnfohmaa.Aes
open Go Go.ChangeShapes Go.WideShapes Go.ChangeAt Go.RowKit Go.Proofs.Ytcbihjcnnfohmaa.Fld
set_option linter.unusedVariables false
set_option linter.unusedSimpArgs false

def rowL (s t : Nat) : List UInt8 := (List.range t).map fun i => UInt8.ofNat (i * s)
theorem rowL_length (s t : Nat) : (rowL s t).length = t := by simp [rowL]
theorem rowL_succ (s t : Nat) : rowL s (t+1) = rowL s t ++ [UInt8.ofNat (t * s)] := by simp [rowL, List.range_succ]
set_option maxRecDepth 100000 in
set_option maxHeartbeats 1000000 in
theorem row_any (s : Nat) (hs : s ≤ 17) (w : World) :
    Calls Try.prog 41 #[.int .i64 0, .int .i64 16, .int .i64 (s : Int)] w fun e w' => ∃ v, e = .returned v ∧ Own w' 5 w.heap.size v (rowL s 16) ∧ Below w.heap.size w w' := by
  go_enter Try.func41, Try.ntmps41
  go_wp2_with fail
  go_loopw [7, 8] (fun v i wr => ∃ t : Nat, t ≤ 16 ∧ i = .int .i64 (t : Int) ∧ Own wr 5 w.heap.size v (rowL s t) ∧ Below w.heap.size w wr) (fun _ i _ => 16 - (intOf i).toNat)
  case atStart => exact ⟨0, by omega, rfl, Own.nil _ _ _, Below.refl _ _⟩
  case round =>
    obtain ⟨t, ht, rfl, hO, hb⟩ := hrel
    obtain ⟨A, c, rfl, _, _⟩ := hO.form
    rw [rowL_length] at hO ⊢
    by_cases hlt : t < 16
    · obtain ⟨m, hm⟩ : ∃ m, t * s = m := ⟨_, rfl⟩
      have hm300 : m ≤ 272 := by rw [← hm]; exact Nat.le_trans (Nat.mul_le_mul (show t ≤ 16 by omega) hs) (by omega)
      have e1 : (t : Int) * (s : Int) = (m : Int) := by rw [← hm]; push_cast; rfl
      have e2 : wrap64 (m : Int) = (m : Int) := IntWalk.wrap64_in _ ⟨by omega, by omega⟩
      have e3 : IntKind.u8.wrap (m : Int) = (((UInt8.ofNat m).toNat : Nat) : Int) := by rw [IntKind.wrap_u8, UInt8.toNat_ofNat']; omega
      have hst := rowL_succ s t
      rw [hm] at hst
      have hoa : Own (wr.alloc (.cells #[.int .u8 (((UInt8.ofNat m).toNat : Nat) : Int)] 5)) 5 w.heap.size (.slice A t c) (rowL s t) := hO.alloc _
      have hba := hb.alloc hb.size (.cells #[.int .u8 (((UInt8.ofNat m).toNat : Nat) : Int)] 5)
      have hsa := hba.size
      have hrd : Rd (wr.alloc (.cells #[.int .u8 (((UInt8.ofNat m).toNat : Nat) : Int)] 5)) (wr.heap.size + 1) (some ⟨wr.heap.size, 0, none⟩) [UInt8.ofNat m] := rd_lit (w := wr) 5 [UInt8.ofNat m] rfl
      have HST := Lib.hid hst
      have HOA := Lib.hid hoa
      have HBA := Lib.hid hba
      have HRD := Lib.hid hrd
      have HRL := Lib.hid (rowL_length s t)
      clear hst hO hb hoa hba hrd hm
      go_wp2_with (with_reducible refine at_slot 22 ?_
                   refine wpList_append_u8 Go.Proofs.Ytcbihjcnnfohmaa.u8 rfl (.tmp 14) (.tmp 21) rfl w.heap.size _ (rowL s t) _ 1 1 [UInt8.ofNat m] _ rfl rfl HOA.out HRD.out rfl (by rw [HRL.out]; omega) hsa ?_
                   intro v2 w2 hO2 hg2 hat2
                   have hb2 := below_grown HBA.out hg2 hsa HOA.out (Nat.le_refl _)
                   rw [← HST.out] at hO2
                   have HO2 := Lib.hid hO2
                   have HB2 := Lib.hid hb2
                   clear hO2 hg2 hat2 hb2 e1 e2 e3)
      go_roundw
      case rel => exact ⟨t + 1, by omega, by go_num, HO2.out, HB2.out⟩
      case measure => simp [intOf] <;> omega
    · have e16 : t = 16 := by omega
      subst e16
      have HO := Lib.hid hO
      have HB := Lib.hid hb
      clear hO hb
      go_wp2_with fail
      go_ret
      exact ⟨_, rfl, HO.out, HB.out⟩
theorem sb_chain (x : UInt8) : sb x = UInt8.ofNat (aff (chain x.toNat)) := by unfold sb box inv; rw [gpow_254 _ x.toNat_lt]
def encB (key s : Blk) : Blk := enc key s
theorem small_enc : enc (rowL 1 16) (rowL 17 16) = [105, 196, 224, 216, 106, 123, 4, 48, 216, 205, 183, 128, 112, 180, 197, 90] := by decide +kernel
end Go.Proofs.Ytcbihjcnnfohmaa.Aes
