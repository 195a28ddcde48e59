/- The digest of parts. -/
import Derived.Test.YtkgnnlglabihkaaGreatDoorShaSum
namespace Go.Proofs.YtkgnnlglabihkaaGreatDoor.Sha
open Go Go.ChangeShapes Go.WideShapes Go.ChangeAt Go.RowKit
set_option linter.unusedVariables false
set_option linter.unusedSimpArgs false

set_option maxRecDepth 100000 in
set_option maxHeartbeats 1000000 in
theorem shasum_any (A : Option Addr) (n c : Nat) (ps : List Part) (w : World) (hps : PartsS w (fun k => k < w.heap.size) A ps) (hn : ps.length = n) (hnm : n ≤ 9223372036854775807) (hsz : (bytesOf ps).length ≤ 35184372088832) :
    Calls Tryz.prog 71 #[.slice A n c] w fun e w' => ∃ v, e = .returned v ∧ Own w' 5 w.heap.size v (sha (bytesOf ps)) ∧ Below w.heap.size w w' := by
  subst hn
  have HPS := Lib.hid hps
  clear hps
  go_enter Tryz.func71, Tryz.ntmps71
  go_wp2_with (first
    | (go_at_call 69
       refine (new_any _).mono ?_
       rintro e w1 ⟨g, rfl, hgb, hr1, hb1⟩
       have hH1 := Lib.hid (Hst.new hr1 hgb)
       have hP1 := Lib.hid ((HPS.out.frame (Frame.of_below hb1 (fun k hk => hk))).mono (T := Far w1 g (.slice none 0 0)) (fun k hk => ⟨Nat.lt_of_lt_of_le hk hb1.size, fun h => by omega, fun h => by cases h⟩))
       clear hr1)
    | (go_at_call 70
       refine (write_any g w.heap.size (.slice none 0 0) [] A ps.length c ps w1 0 hH1.out hP1.out rfl hnm (by simp; omega) (by simp; omega) hb1.size).mono ?_
       rw [List.nil_append, Nat.zero_add]
       rintro e w2 ⟨rv2, rfl, hH2, hnew2, hF2⟩
       have hb2 : Below w.heap.size w w2 := hb1.trans (hF2.toBelow (fun k hk => ⟨Nat.lt_of_lt_of_le hk hb1.size, fun h => by omega, fun h => by cases h⟩))
       have HH2 := Lib.hid hH2
       clear hH2 hnew2 hF2)
    | (go_at_call 72
       refine (hsum_any g w.heap.size rv2 (bytesOf ps) w2 HH2.out hsz).mono ?_
       rintro e w3 ⟨v3, rfl, hO3, hb3⟩
       have hb13 := hb2.trans (hb3.mono hb2.size)
       have HO3 := Lib.hid (hO3.mono hb2.size)
       obtain ⟨A3, c3, rfl, _, _⟩ := hO3.form
       clear hO3 hb3))
  go_ret
  exact ⟨_, rfl, HO3.out, hb13⟩
end Go.Proofs.YtkgnnlglabihkaaGreatDoor.Sha
