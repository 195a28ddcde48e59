/- Vaults: New. Contract. -/
import Derived.Test.YtkgnnlglabihkaaGreatDoorTG
namespace Go.Proofs.YtkgnnlglabihkaaGreatDoor.Top
open Go Go.ChangeShapes Go.WideShapes Go.ChangeAt Go.RowKit Go.Proofs.YtkgnnlglabihkaaGreatDoor.Aes Go.Proofs.YtkgnnlglabihkaaGreatDoor.Str Go.Proofs.YtkgnnlglabihkaaGreatDoor.Mac
set_option linter.unusedVariables false
set_option linter.unusedSimpArgs false
def vaultL (p t : Value) : List Value := p :: t :: .int .i64 0 :: (List.range 1024).map slotV
theorem vaultL_at (p t : Value) (j : Nat) (h : j < 1024) : (vaultL p t)[3 + j]? = some (slotV j) := by
  unfold vaultL
  rw [show 3 + j = j + 1 + 1 + 1 by omega, List.getElem?_cons_succ, List.getElem?_cons_succ, List.getElem?_cons_succ, List.getElem?_map, List.getElem?_range h]
  rfl
set_option maxRecDepth 100000 in
theorem run_build_vault (a : Addr) (t : Int) (w : World) : (Instr.build 68 #[(0, .pointer (some a)), (1, .int .i64 t)]).run Tryz.prog w = .ok (.agg (vaultL (.pointer (some a)) (.int .i64 t)).toArray) w := by kernel_rfl
theorem wpList_build_vault {ops : Array Oper} {rest : List Oper} {o : Oper} {a : Act} {w : World} {Q : Exit → Act → World → Prop} (hgd : o.guard = none) (x y : Operand) (ho : o.op = .build 68 #[(0, x), (1, y)]) (p : Addr) (t : Int) (hx : a.eval x = .pointer (some p)) (hy : a.eval y = .int .i64 t)
    (h : wpList Tryz.prog ops Q rest (a.put o.dst (.agg (vaultL (.pointer (some p)) (.int .i64 t)).toArray)) w) : wpList Tryz.prog ops Q (o :: rest) a w := by
  refine wpList_plain hgd fun _ hK => ?_
  have hr := run_build_vault p t w
  unfold Oper.wp execOp
  simp only [ho, List.map_toArray, List.map_cons, List.map_nil, hx, hy, hr, Sem.run_bind, Sem.run_pure, Result.andThen_ok]
  exact hK _ _ h
theorem SlotL.more {w : World} {D D' : Nat → Prop} {cs : List Value} {o : Nat} {k : List UInt8} (h : SlotL w D cs o k) (hD : ∀ k, D' k → D k ∨ w.heap.size ≤ k) : SlotL w D' cs o k :=
  h.imp id (fun ⟨h0, A, c, h1, h2, h3, h4, h5⟩ => ⟨h0, A, c, h1, h2, h3, h4, RdS.mono h5 (fun k hk => ⟨hk.1, fun hd => (hD k hd).elim hk.2 (fun e => by have := hk.1; omega)⟩)⟩)
theorem Ring.more {w : World} {D D' : Nat → Prop} {rb tn : Nat} {master : List UInt8} (h : Ring w D rb tn master) (hD : ∀ k, D' k → D k ∨ w.heap.size ≤ k) (hD2 : ∀ k, D k → D' k) : Ring w D' rb tn master := by
  obtain ⟨cs, h1, ⟨A, n, c, h2, h3, h4, h5⟩, h6⟩ := h.row
  exact ⟨hD2 _ h.inD, cs, h1, ⟨A, n, c, h2, h3, h4, RdS.mono h5 (fun k hk => ⟨hk.1, fun hd => (hD k hd).elim hk.2 (fun e => by have := hk.1; omega)⟩)⟩, h6.more hD⟩
theorem Vlt.more {w : World} {D D' : Nat → Prop} {vb rb tn now : Nat} {master : List UInt8} (h : Vlt w D vb rb tn now master) (hD : ∀ k, D' k → D k ∨ w.heap.size ≤ k) (hD2 : ∀ k, D k → D' k) : Vlt w D' vb rb tn now master := by
  obtain ⟨cs, h1, h2, h3, h4, h5⟩ := h.row
  exact ⟨hD2 _ h.inD, h.ne, h.ring.more hD hD2, cs, h1, h2, h3, h4, fun i hi => (h5 i hi).more hD⟩
theorem slotV_four (q : Nat) : slotV (q * 4) = .int .u32 0 ∧ slotV (q * 4 + 1) = .int .i32 0 := by
  unfold slotV
  constructor
  · rw [if_pos (by omega)]
  · rw [if_neg (by omega), if_pos (by omega)]
theorem ring_new {w : World} {g tn n c : Nat} {A : Option Addr} {l : List UInt8} (D0 : Nat → Prop) (hr : Aes.RowV w 95 g (ringL (.slice A n c))) (base : Nat) (hD0 : ∀ k, D0 k → k < base) (hO : Own w 5 base (.slice A n c) l) (hA : ∀ a, A = some a → a.block < g) (hn : l.length = n) (h64 : n ≤ 64) (htn : tn ≤ 64) :
    Ring w (fun k => D0 k ∨ k = g) g tn l := by
  have hb : ∀ k, (Value.slice A n c).ownBlock = some k → Off w (fun k => D0 k ∨ k = g) k := fun k hk => ⟨(hO.lt k hk).2, fun e => by
    rcases e with e | e
    · have := hD0 k e
      have := (hO.lt k hk).1
      omega
    cases A with
    | none => cases hk
    | some a =>
      have h1 := hA a rfl
      have h2 : a.block = k := by simpa [Value.ownBlock] using hk
      have h3 : k = g := e
      omega⟩
  refine ⟨.inr rfl, _, hr, ⟨A, n, c, rfl, hn, h64, Aes.own_rds hO hb rfl⟩, .inl ⟨?_, ?_, slotV (tn * 4 + 3), ?_⟩⟩
  · rw [ringL_at _ _ (by omega), (slotV_four tn).1]
  · rw [show 1 + tn * 4 + 1 = 1 + (tn * 4 + 1) by omega, ringL_at _ _ (by omega), (slotV_four tn).2]
  · rw [show 1 + tn * 4 + 3 = 1 + (tn * 4 + 3) by omega, ringL_at _ _ (by omega)]
theorem vault_new {w : World} {vb rb tn : Nat} {l : List UInt8} {D : Nat → Prop} (hD : D vb) (hne : vb ≠ rb) (hR : Ring w D rb tn l) (hr : Aes.RowV w 68 vb (vaultL (.pointer (some ⟨rb, 0, none⟩)) (.int .i64 (tn : Int)))) : Vlt w D vb rb tn 0 l := by
  refine ⟨hD, hne, hR, _, hr, rfl, rfl, rfl, fun i hi => .inl ⟨?_, ?_, slotV (i * 4 + 3), ?_⟩⟩
  · rw [vaultL_at _ _ _ (by omega), (slotV_four i).1]
  · rw [show 3 + i * 4 + 1 = 3 + (i * 4 + 1) by omega, vaultL_at _ _ _ (by omega), (slotV_four i).2]
  · rw [show 3 + i * 4 + 3 = 3 + (i * 4 + 3) by omega, vaultL_at _ _ _ (by omega)]
set_option maxRecDepth 100000 in
set_option maxHeartbeats 2000000 in
theorem vnew_at (D0 : Nat → Prop) (A : Option Addr) (n c tn now : Nat) (l : List UInt8) (B : Nat) (w : World) (hD0 : ∀ k, D0 k → k < w.heap.size) (hT : Tb B w) (hB : B ≤ w.heap.size) (hn : l.length = n) (hr : Rd w w.heap.size A l) (h16 : 16 ≤ n) (h64 : n ≤ 64) (t1 : 1 ≤ tn) (t64 : tn ≤ 64) (v1 : 1 ≤ now) (v2 : now ≤ 255) :
    Calls Tryz.prog 6 #[.slice A n c, .int .i64 (tn : Int), .int .i64 (now : Int)] w fun e w' => ∃ vb rb, e = .returned (.tuple #[.pointer (some ⟨vb, 0, none⟩), .int .i64 0]) ∧ Vlt w' (fun k => D0 k ∨ k = vb ∨ k = rb) vb rb tn now l ∧ w.heap.size ≤ vb ∧ w.heap.size ≤ rb ∧ Below w.heap.size w w' := by
  have HD0 := Lib.hid hD0
  clear hD0
  have HN := Lib.hid (knew_yes A n c l w hn hr h16 h64)
  have HP := Lib.hid (And.intro (And.intro hT hB) (And.intro hn h64))
  have HQ := Lib.hid (And.intro (And.intro t1 t64) (And.intro v1 v2))
  clear hT hB hn hr h16 h64 t1 t64 v1 v2
  go_enter Tryz.func6, Tryz.ntmps6
  go_wp2_with fail
  refine HN.out.mono ?_
  rintro e w1 ⟨rb, A1, c1, rfl, hrb, hr1, hO1, hA1, hb1⟩
  have hR1 := ring_new (tn := tn) D0 hr1 _ HD0.out hO1 hA1 HP.out.2.1 HP.out.2.2 HQ.out.1.2
  have HK := Lib.hid (rkey_any (fun k => D0 k ∨ k = rb) rb tn now l B w1 (HP.out.1.1.on (hb1.mono HP.out.1.2)) (Nat.le_trans HP.out.1.2 hb1.size) (Nat.le_trans HP.out.1.2 hrb) hR1 (fun k hk => hk.elim (fun h => Nat.lt_of_lt_of_le (HD0.out k h) hb1.size) (fun h => by subst h; exact hr1.lt)) HQ.out.1.1 HQ.out.1.2 HQ.out.2.1 HQ.out.2.2)
  have HB1 := Lib.hid hb1
  have HRB := Lib.hid (And.intro hrb hr1.lt)
  clear hrb hr1 hO1 hA1 hb1 hR1
  go_wp2_with fail
  refine HK.out.mono ?_
  rintro e w2 ⟨A2, c2, rfl, hO2, hR2, hF2⟩
  obtain ⟨w3, hw3⟩ : ∃ w3, w2.alloc (.cells (vaultL (.pointer (some ⟨rb, 0, none⟩)) (.int .i64 (tn : Int))).toArray 68) = w3 := ⟨_, rfl⟩
  have hr3 : Aes.RowV w3 68 w2.heap.size (vaultL (.pointer (some ⟨rb, 0, none⟩)) (.int .i64 (tn : Int))) := by rw [← hw3]; exact heap_alloc_new w2 _
  have hb3 : Below w2.heap.size w2 w3 := by rw [← hw3]; exact (Below.refl _ _).alloc (Nat.le_refl _) _
  have hne : w2.heap.size ≠ rb := by have := hF2.size; have := HRB.out.2; omega
  have hV3 : Vlt w3 (fun k => D0 k ∨ k = w2.heap.size ∨ k = rb) w2.heap.size rb tn 0 l := vault_new (.inr (.inl rfl)) hne ((hR2.more (D' := fun k => D0 k ∨ k = w2.heap.size ∨ k = rb) (fun k hk => by rcases hk with h | h | h; exact .inl (.inl h); exact .inr (by omega); exact .inl (.inr h)) (fun k hk => hk.elim .inl (fun h => .inr (.inr h)))).below hb3) hr3
  have hB2 : Below w.heap.size w w2 := HB1.out.trans (hF2.toBelow (fun k hk => ⟨by have := HB1.out.size; omega, by have := HRB.out.1; omega⟩))
  have HV3 := Lib.hid (hV3.turn now)
  have HST := Lib.hid (store64_any ⟨w2.heap.size, 2, none⟩ _ (now : Int) w3 (cells_of hV3).2.2.1 ((cells_of hV3).2.2.2 2))
  have HB3 := Lib.hid (And.intro (hB2.trans (hb3.mono hB2.size)) hB2.size)
  clear hO2 hR2 hF2 hr3 hb3 hne hV3 hB2
  go_wp2_with (with_reducible refine at_slot 31 ?_
               refine wpList_build_vault rfl _ _ rfl ⟨rb, 0, none⟩ (tn : Int) rfl rfl ?_)
  refine HST.out.mono ?_
  rintro e w4 ⟨rfl, rfl⟩
  clear hw3
  go_wp2_with fail
  go_ret2
  refine ⟨w2.heap.size, rb, rfl, HV3.out.1, HB3.out.2, HRB.out.1, HB3.out.1.trans (HV3.out.2.toBelow (fun k hk => ⟨by have := HB3.out.1.size; omega, by have := HB3.out.2; omega⟩))⟩
theorem vnew_yes (A : Option Addr) (n c tn now : Nat) (l : List UInt8) (B : Nat) (w : World) (hT : Tb B w) (hB : B ≤ w.heap.size) (hn : l.length = n) (hr : Rd w w.heap.size A l) (h16 : 16 ≤ n) (h64 : n ≤ 64) (t1 : 1 ≤ tn) (t64 : tn ≤ 64) (v1 : 1 ≤ now) (v2 : now ≤ 255) :
    Calls Tryz.prog 6 #[.slice A n c, .int .i64 (tn : Int), .int .i64 (now : Int)] w fun e w' => ∃ vb rb, e = .returned (.tuple #[.pointer (some ⟨vb, 0, none⟩), .int .i64 0]) ∧ Vlt w' (fun k => k = vb ∨ k = rb) vb rb tn now l ∧ w.heap.size ≤ vb ∧ w.heap.size ≤ rb ∧ Below w.heap.size w w' := by
  refine (vnew_at (fun _ => False) A n c tn now l B w (fun k h => h.elim) hT hB hn hr h16 h64 t1 t64 v1 v2).mono ?_
  rintro e w' ⟨vb, rb, rfl, hV, h1, h2, h3⟩
  exact ⟨vb, rb, rfl, hV.more (fun k hk => .inl (.inr hk)) (fun k hk => hk.elim (fun h => h.elim) id), h1, h2, h3⟩
set_option maxRecDepth 100000 in
set_option maxHeartbeats 2000000 in
theorem vnew_no (A : Option Addr) (n c : Nat) (tn now : Int) (l : List UInt8) (w : World) (hn : l.length = n) (hr : Rd w w.heap.size A l) (h : n < 16 ∨ 64 < n ∨ tn < 1 ∨ 64 < tn ∨ now < 1 ∨ 255 < now) :
    Calls Tryz.prog 6 #[.slice A n c, .int .i64 tn, .int .i64 now] w fun e w' => e = .returned (.tuple #[.pointer none, .int .i64 1]) ∧ Below w.heap.size w w' := by
  by_cases hl : n < 16 ∨ 64 < n
  · have HN := Lib.hid (knew_no A n c w hl)
    clear hn hr h hl
    go_enter Tryz.func6, Tryz.ntmps6
    go_wp2_with fail
    refine HN.out.mono ?_
    rintro e w1 ⟨rfl, rfl⟩
    go_wp2_with fail
    go_ret2
    exact ⟨rfl, Below.refl _ _⟩
  · have HN := Lib.hid (knew_yes A n c l w hn hr (by omega) (by omega))
    have HK := Lib.hid (fun a w => rkey_no a tn now w (by omega))
    clear hn hr h hl
    go_enter Tryz.func6, Tryz.ntmps6
    go_wp2_with fail
    refine HN.out.mono ?_
    rintro e w1 ⟨rb, A1, c1, rfl, hrb, hr1, hO1, hA1, hb1⟩
    have HB1 := Lib.hid hb1
    clear hrb hr1 hO1 hA1 hb1
    go_wp2_with fail
    refine (HK.out _ _).mono ?_
    rintro e w2 ⟨rfl, hb2⟩
    have HB2 := Lib.hid (HB1.out.trans (hb2.mono HB1.out.size))
    clear hb2
    go_wp2_with fail
    go_ret2
    exact ⟨rfl, HB2.out⟩
end Go.Proofs.YtkgnnlglabihkaaGreatDoor.Top

/- Vaults: (*Vault).cipher. Contract. -/
namespace Go.Proofs.YtkgnnlglabihkaaGreatDoor.Top
open Go Go.ChangeShapes Go.WideShapes Go.ChangeAt Go.RowKit Go.Proofs.YtkgnnlglabihkaaGreatDoor.Aes Go.Proofs.YtkgnnlglabihkaaGreatDoor.Str Go.Proofs.YtkgnnlglabihkaaGreatDoor.Mac
set_option linter.unusedVariables false
set_option linter.unusedSimpArgs false
theorem Vlt.base {w w' : World} {D : Nat → Prop} {vb rb tn now base : Nat} {master : List UInt8} (h : Vlt w D vb rb tn now master) (hb : Below base w w') (hbase : w.heap.size ≤ base) : Vlt w' D vb rb tn now master := h.below (hb.mono hbase)
theorem COut.toBelow {w w' : World} {base gc g : Nat} {B : Nat → Prop} {key tw : List UInt8} (h : COut w w' base B gc g key tw) (hc : Ciph w base B gc g key tw) (hb : base ≤ w.heap.size) : Below base w w' := by
  obtain ⟨B', h1, h2, h3⟩ := h
  exact h2.toBelow (fun k hk => ⟨by omega, fun hB => by have := (KeyIs.lt hc.key k hB).1; omega⟩)
set_option maxRecDepth 100000 in
set_option maxHeartbeats 2000000 in
theorem cipher_any (D : Nat → Prop) (vb rb tn now v : Nat) (master a b : List UInt8) (B : Nat) (w : World) (hT : Tb B w) (hB : B ≤ w.heap.size) (hBr : B ≤ rb) (hBv : B ≤ vb) (t1 : 1 ≤ tn) (t64 : tn ≤ 64) (v1 : 1 ≤ v) (v2 : v ≤ 255) (hV : Vlt w D vb rb tn now master) (hD : ∀ k, D k → k < w.heap.size) (hab : (a ++ b).length = 10) :
    Calls Tryz.prog 21 #[.pointer (some ⟨vb, 0, none⟩), .int .i64 (v : Int), .string (str a), .string (str b)] w fun e w' => ∃ gc g Bk wb, e = .returned (.pointer (some ⟨gc, 0, none⟩)) ∧ Ciph w' wb.heap.size Bk gc g (keyV master tn v) (a ++ b) ∧ Below wb.heap.size wb w' ∧ Vlt wb D vb rb tn now master ∧ Frame (fun k => k < w.heap.size ∧ k ≠ vb ∧ k ≠ rb) w wb := by
  have HK := Lib.hid (vkey_any D vb rb tn now v master B w hT hB hBr hBv t1 t64 v1 v2 hV hD)
  have hadd : ∀ w, (Op.stringOp .add (str a) (str b)).run Tryz.prog w = .ok (.string (str (a ++ b))) w := add_str a b (by rw [← List.length_append, hab]; omega)
  have HAB := Lib.hid hab
  have HKL := Lib.hid (keyV_len master tn v)
  clear hT hB hBr hBv t1 t64 v1 v2 hV hD hab
  go_enter Tryz.func21, Tryz.ntmps21
  go_wp2_with fail
  refine HK.out.mono ?_
  rintro e w2 ⟨A2, c2, rfl, hc1, hc2, hrd2, hV2, hF2⟩
  obtain ⟨Wb, cb, hrun, hRb, hBb, hzb, hcb, hcbm⟩ := conv_bytes w2 (a ++ b) 10 HAB.out (by omega)
  have HR2 := Lib.hid (rd_now (hrd2.rd (fun k hk => hk.1)) hBb)
  have HRB := Lib.hid (hRb.more (show w2.heap.size + 1 ≤ Wb.heap.size by omega))
  have HV2 := Lib.hid (hV2.below hBb)
  have HF2 := Lib.hid (hF2.trans (Frame.of_below hBb (S := fun k => k < w2.heap.size) (fun k hk => hk)) (fun k hk => Nat.lt_of_lt_of_le hk.1 hF2.size))
  have HZ := Lib.hid (And.intro hzb hF2.size)
  clear hrd2 hV2 hF2 hRb hBb hzb hc1 hc2
  go_wp2_with fail
  refine (newc_any A2 (some ⟨w2.heap.size, 0, none⟩) 32 c2 cb (keyV master tn v) (a ++ b) Wb HKL.out (.inr HKL.out) HR2.out HAB.out hcb HRB.out).mono ?_
  rintro e w3 ⟨gc, g, Bk, rfl, hci, hb3⟩
  have HCI := Lib.hid hci
  have HB3 := Lib.hid hb3
  clear hci hb3 hrun
  go_wp2_with fail
  go_ret
  exact ⟨gc, g, Bk, Wb, rfl, HCI.out, HB3.out, HV2.out, HF2.out⟩
end Go.Proofs.YtkgnnlglabihkaaGreatDoor.Top

/- Vaults: Token. Contract. -/
namespace Go.Proofs.YtkgnnlglabihkaaGreatDoor.Top
open Go Go.ChangeShapes Go.WideShapes Go.ChangeAt Go.RowKit Go.Proofs.YtkgnnlglabihkaaGreatDoor.Aes Go.Proofs.YtkgnnlglabihkaaGreatDoor.Str Go.Proofs.YtkgnnlglabihkaaGreatDoor.Mac
set_option linter.unusedVariables false
set_option linter.unusedSimpArgs false
def binL (s : List UInt8) : List UInt8 := s.take 6
def midL (s : List UInt8) : List UInt8 := (s.drop 6).take (s.length - 4 - 6)
def endL (s : List UInt8) : List UInt8 := s.drop (s.length - 4)
/-- the hidden number -/
def hideL (master : List UInt8) (tn v : Nat) (s : List UInt8) : List UInt8 := binL s ++ encL (keyV master tn v) (binL s ++ endL s) (midL s) ++ endL s
/-- the token -/
def tokL (master : List UInt8) (tn v : Nat) (s : List UInt8) : List UInt8 := hideL master tn v s ++ 46 :: decN v
theorem parts_len {s : List UInt8} (h : okP s = true) : (binL s).length = 6 ∧ (midL s).length = s.length - 10 ∧ (endL s).length = 4 ∧ 6 ≤ s.length - 10 ∧ s.length - 10 ≤ 9 := by
  have := (okP_iff s).1 h
  unfold binL midL endL
  simp only [List.length_take, List.length_drop]
  omega
theorem parts_allD {s : List UInt8} (h : okP s = true) : allD (binL s) = true ∧ allD (midL s) = true ∧ allD (endL s) = true := by
  have := ((okP_iff s).1 h).1
  exact ⟨allD_take this _, allD_take (allD_drop this _) _, allD_drop this _⟩
theorem okP_join {a b c : List UInt8} (ha : allD a = true) (hb : allD b = true) (hc : allD c = true) (h6 : a.length = 6) (h4 : c.length = 4) (h1 : 6 ≤ b.length) (h2 : b.length ≤ 9) : okP (a ++ b ++ c) = true := by
  rw [okP_iff]
  refine ⟨allD_append _ _ (allD_append _ _ ha hb) hc, ?_, ?_⟩ <;> simp only [List.length_append] <;> omega
theorem encL_allD (key tw l : List UInt8) : allD (encL key tw l) = true := textP_all _ _
theorem decL_allD (key tw l : List UInt8) : allD (decL key tw l) = true := textP_all _ _
theorem hideL_ok {master s : List UInt8} {tn v : Nat} (h : okP s = true) : okP (hideL master tn v s) = true := by
  obtain ⟨h1, h2, h3, h4, h5⟩ := parts_len h
  obtain ⟨d1, d2, d3⟩ := parts_allD h
  exact okP_join d1 (encL_allD _ _ _) d3 h1 h3 (by rw [encL_len]; omega) (by rw [encL_len]; omega)
theorem isP_ok {s : List UInt8} (h : isP s = true) : okP s = true := by unfold isP at h; simp at h; exact h.1
set_option maxRecDepth 100000 in
theorem vtoken_no (D : Nat → Prop) (vb rb tn now n : Nat) (master s : List UInt8) (w : World) (hV : Vlt w D vb rb tn now master) (hn : s.length = n) (hm : n ≤ 9223372036854775000) (hp : isP s = false) :
    Calls Tryz.prog 7 #[.pointer (some ⟨vb, 0, none⟩), .string (str s)] w fun e w' => e = .returned (.tuple #[.string (str []), .int .i64 10]) ∧ Vlt w' D vb rb tn now master ∧ Frame (fun k => k < w.heap.size ∧ k ≠ vb ∧ k ≠ rb) w w' := by
  have HI := Lib.hid (is_any s n hn hm w)
  rw [hp] at HI
  have HV := Lib.hid hV
  clear hn hm hp hV
  go_enter Tryz.func7, Tryz.ntmps7
  go_wp2_with fail
  refine HI.out.mono ?_
  rintro e w1 ⟨rfl, hb1⟩
  have HB1 := Lib.hid hb1
  clear hb1
  go_wp2_with fail
  go_ret2
  exact ⟨rfl, HV.out.below HB1.out, Frame.of_below HB1.out (fun k hk => hk.1)⟩
set_option maxRecDepth 100000 in
set_option maxHeartbeats 2000000 in
theorem vtoken_yes (D : Nat → Prop) (vb rb tn now n : Nat) (master s : List UInt8) (B : Nat) (w : World) (hT : Tb B w) (hB : B ≤ w.heap.size) (hBr : B ≤ rb) (hBv : B ≤ vb) (t1 : 1 ≤ tn) (t64 : tn ≤ 64) (v1 : 1 ≤ now) (v2 : now ≤ 255) (hV : Vlt w D vb rb tn now master) (hD : ∀ k, D k → k < w.heap.size) (hn : s.length = n) (hp : isP s = true) :
    Calls Tryz.prog 7 #[.pointer (some ⟨vb, 0, none⟩), .string (str s)] w fun e w' => e = .returned (.tuple #[.string (str (tokL master tn now s)), .int .i64 0]) ∧ Vlt w' D vb rb tn now master ∧ Frame (fun k => k < w.heap.size ∧ k ≠ vb ∧ k ≠ rb) w w' := by
  have hok := isP_ok hp
  obtain ⟨pl1, pl2, pl3, pl4, pl5⟩ := parts_len hok
  obtain ⟨pd1, pd2, pd3⟩ := parts_allD hok
  have hn19 := ((okP_iff s).1 hok).2.2
  have HI := Lib.hid (is_any s n hn (by omega) w)
  rw [hp] at HI
  have HC := Lib.hid (fun w => pcut_any s n hn (by omega) hok w)
  have e2 : (s.drop 6).take (n - 4 - 6) = midL s := by unfold midL; rw [hn]
  have e3 : s.drop (n - 4) = endL s := by unfold endL; rw [hn]
  have e1 : s.take 6 = binL s := rfl
  rw [e1, e2, e3] at HC
  have HHO := Lib.hid (hideL_ok (master := master) (tn := tn) (v := now) hok)
  have hH : hideL master tn now s = binL s ++ encL (keyV master tn now) (binL s ++ endL s) (midL s) ++ endL s := rfl
  have HTK := Lib.hid (show tokL master tn now s = hideL master tn now s ++ 46 :: decN now from rfl)
  have hml : (encL (keyV master tn now) (binL s ++ endL s) (midL s)).length ≤ 9 := by rw [encL_len]; omega
  rw [hH] at HHO HTK
  clear hH e1 e2 e3
  generalize binL s = a at *
  generalize midL s = b at *
  generalize endL s = c at *
  have HE := Lib.hid (fun base Bk gc g w h hb => encs_any base Bk gc g (keyV master tn now) (a ++ c) b (b.length) (by omega) (by omega) rfl pd2 w h hb)
  generalize encL (keyV master tn now) (a ++ c) b = m at *
  have ha1 : ∀ w, (Op.stringOp .add (str a) (str m)).run Tryz.prog w = .ok (.string (str (a ++ m))) w := add_str a m (by omega)
  have ha2 : ∀ w, (Op.stringOp .add (str (a ++ m)) (str c)).run Tryz.prog w = .ok (.string (str (a ++ m ++ c))) w := add_str (a ++ m) c (by simp only [List.length_append]; omega)
  have hl2 : (a ++ m ++ c).length ≤ 19 := by simp only [List.length_append]; omega
  have HCI := Lib.hid (fun w hT hB hV hD => cipher_any D vb rb tn now now master a c B w hT hB hBr hBv t1 t64 v1 v2 hV hD (by rw [List.length_append]; omega))
  generalize a ++ m = am at *
  generalize am ++ c = amc at *
  have HPT := Lib.hid (fun w hT hB => ptoken_any amc _ now rfl (by omega) HHO.out v1 v2 B w hT hB)
  have HV := Lib.hid hV
  have HP := Lib.hid (And.intro (And.intro hT (And.intro hB (And.intro hBr hBv))) hD)
  clear hok pl1 pl2 pl3 pl4 pl5 pd1 pd2 pd3 hn19 hml hl2 hT hB hBr hBv t1 t64 v1 v2 hV hD hn hp
  go_enter Tryz.func7, Tryz.ntmps7
  go_wp2_with fail
  refine HI.out.mono ?_
  rintro e w1 ⟨rfl, hb1⟩
  have HV1 := Lib.hid (HV.out.below hb1)
  have HB1 := Lib.hid hb1
  clear hb1
  go_wp2_with fail
  refine (version_any D vb rb tn now master w1 HV1.out).mono ?_
  rintro e w1' ⟨rfl, rfl⟩
  go_wp2_with fail
  refine (HC.out w1).mono ?_
  rintro e w2 ⟨rfl, hb2⟩
  have HV2 := Lib.hid (HV1.out.below hb2)
  have HB2 := Lib.hid (HB1.out.trans (hb2.mono HB1.out.size))
  clear hb2
  go_wp2_with fail
  refine (HCI.out w2 (HP.out.1.1.on (HB2.out.mono HP.out.1.2.1)) (Nat.le_trans HP.out.1.2.1 HB2.out.size) HV2.out (fun k hk => Nat.lt_of_lt_of_le (HP.out.2 k hk) HB2.out.size)).mono ?_
  rintro e w3 ⟨gc, g, Bk, wb, rfl, hci, hb3, hVb, hFb⟩
  have HCP := Lib.hid hci
  have HB3 := Lib.hid hb3
  have HVB := Lib.hid hVb
  have HFB := Lib.hid (show Frame (fun k => k < w.heap.size ∧ k ≠ vb ∧ k ≠ rb) w wb from (Frame.of_below HB2.out (S := fun k => k < w.heap.size ∧ k ≠ vb ∧ k ≠ rb) (fun k hk => hk.1)).trans hFb (fun k hk => ⟨Nat.lt_of_lt_of_le hk.1 HB2.out.size, hk.2⟩))
  clear hci hb3 hVb hFb
  go_wp2_with fail
  refine (HE.out wb.heap.size Bk gc g w3 HCP.out HB3.out.size).mono ?_
  rintro e w4 ⟨rfl, hco⟩
  have HB4 := Lib.hid (HB3.out.trans (hco.toBelow HCP.out HB3.out.size))
  have HT4 := Lib.hid (HP.out.1.1.on ((HFB.out.toBelow (fun k hk => ⟨by have := HP.out.1.2.1; omega, by have := HP.out.1.2.2.2; omega, by have := HP.out.1.2.2.1; omega⟩)).trans (HB4.out.mono (Nat.le_trans HP.out.1.2.1 HFB.out.size))))
  clear hco
  go_wp2_with fail
  refine (HPT.out w4 HT4.out (Nat.le_trans HP.out.1.2.1 (Nat.le_trans HFB.out.size HB4.out.size))).mono ?_
  rintro e w5 ⟨rfl, hb5⟩
  have HB5 := Lib.hid (HB4.out.trans (hb5.mono HB4.out.size))
  clear hb5
  go_wp2_with fail
  go_ret2
  exact ⟨by rw [HTK.out]; rfl, HVB.out.below HB5.out, HFB.out.trans (Frame.of_below HB5.out (S := fun k => k < wb.heap.size) (fun k hk => hk)) (fun k hk => Nat.lt_of_lt_of_le hk.1 HFB.out.size)⟩
end Go.Proofs.YtkgnnlglabihkaaGreatDoor.Top

/- Vaults: Back and Renew of a token of version 1. Contracts. -/
namespace Go.Proofs.YtkgnnlglabihkaaGreatDoor.Top
open Go Go.ChangeShapes Go.WideShapes Go.ChangeAt Go.RowKit Go.Proofs.YtkgnnlglabihkaaGreatDoor.Aes Go.Proofs.YtkgnnlglabihkaaGreatDoor.Str Go.Proofs.YtkgnnlglabihkaaGreatDoor.Mac
set_option linter.unusedVariables false
set_option linter.unusedSimpArgs false
/-- the number shown again -/
def showL (master : List UInt8) (tn v : Nat) (p : List UInt8) : List UInt8 := binL p ++ decL (keyV master tn v) (binL p ++ endL p) (midL p) ++ endL p
theorem showL_len {master p : List UInt8} {tn v : Nat} (h : okP p = true) : (showL master tn v p).length ≤ 19 := by
  obtain ⟨h1, h2, h3, h4, h5⟩ := parts_len h
  unfold showL
  simp only [List.length_append, decL_len]
  omega
set_option maxRecDepth 100000 in
set_option maxHeartbeats 4000000 in
theorem vback_any (D : Nat → Prop) (vb rb tn now : Nat) (master p : List UInt8) (B : Nat) (w : World) (hT : Tb B w) (hB : B ≤ w.heap.size) (hBr : B ≤ rb) (hBv : B ≤ vb) (t1 : 1 ≤ tn) (t64 : tn ≤ 64) (v1 : 1 ≤ now) (v2 : now ≤ 255) (hV : Vlt w D vb rb tn now master) (hD : ∀ k, D k → k < w.heap.size) (hok : okP p = true) :
    Calls Tryz.prog 16 #[.pointer (some ⟨vb, 0, none⟩), .string (str (p ++ 46 :: [49]))] w fun e w' => ∃ r x, e = .returned (.tuple #[.string (str r), .int .i64 x]) ∧ (isP (showL master tn 1 p) = true → r = showL master tn 1 p ∧ x = 0) ∧ (isP (showL master tn 1 p) = false → x = 11) ∧ Vlt w' D vb rb tn now master ∧ Frame (fun k => k < w.heap.size ∧ k ≠ vb ∧ k ≠ rb) w w' := by
  obtain ⟨pl1, pl2, pl3, pl4, pl5⟩ := parts_len hok
  obtain ⟨pd1, pd2, pd3⟩ := parts_allD hok
  obtain ⟨n, hn⟩ : ∃ n, p.length = n := ⟨_, rfl⟩
  have hn19 := ((okP_iff p).1 hok).2.2
  have hver : decide ((now : Int) < 1) = false := decide_eq_false (by omega)
  have HS := Lib.hid (split_any p hok B w hT hB)
  have HC := Lib.hid (fun w => pcut_any p n hn (by omega) hok w)
  have e2 : (p.drop 6).take (n - 4 - 6) = midL p := by unfold midL; rw [hn]
  have e3 : p.drop (n - 4) = endL p := by unfold endL; rw [hn]
  have e1 : p.take 6 = binL p := rfl
  rw [e1, e2, e3] at HC
  have HSL := Lib.hid (showL_len (master := master) (tn := tn) (v := 1) hok)
  have hH : showL master tn 1 p = binL p ++ decL (keyV master tn 1) (binL p ++ endL p) (midL p) ++ endL p := rfl
  have hml : (decL (keyV master tn 1) (binL p ++ endL p) (midL p)).length ≤ 9 := by rw [decL_len]; omega
  generalize showL master tn 1 p = q at *
  rw [hH] at HSL ⊢
  clear e1 e2 e3 hH
  generalize binL p = a at *
  generalize midL p = b at *
  generalize endL p = c at *
  have HE := Lib.hid (fun base Bk gc g w h hb => decs_any base Bk gc g (keyV master tn 1) (a ++ c) b (b.length) (by omega) (by omega) rfl pd2 w h hb)
  generalize decL (keyV master tn 1) (a ++ c) b = m at *
  have ha1 : ∀ w, (Op.stringOp .add (str a) (str m)).run Tryz.prog w = .ok (.string (str (a ++ m))) w := add_str a m (by omega)
  have ha2 : ∀ w, (Op.stringOp .add (str (a ++ m)) (str c)).run Tryz.prog w = .ok (.string (str (a ++ m ++ c))) w := add_str (a ++ m) c (by simp only [List.length_append]; omega)
  have HCI := Lib.hid (fun w hT hB hV hD => cipher_any D vb rb tn now 1 master a c B w hT hB hBr hBv t1 t64 (by omega) (by omega) hV hD (by rw [List.length_append]; omega))
  rw [show ((1 : Nat) : Int) = 1 from rfl] at HCI
  generalize a ++ m = am at *
  generalize am ++ c = amc at *
  have HIS := Lib.hid (fun w => is_any amc _ rfl (by have := HSL.out; omega) w)
  have HV := Lib.hid hV
  have HP := Lib.hid (And.intro (And.intro hT (And.intro hB (And.intro hBr hBv))) hD)
  obtain ⟨t, ht⟩ : ∃ t, str (p ++ 46 :: [49]) = t := ⟨_, rfl⟩
  rw [ht] at HS ⊢
  clear hok pl1 pl2 pl3 pl4 pl5 pd1 pd2 pd3 hn19 hml hT hB hBr hBv t1 t64 v1 v2 hV hD hn ht
  obtain ⟨bb, hbb⟩ : ∃ bb, isP amc = bb := ⟨_, rfl⟩
  rw [hbb] at HIS ⊢
  go_enter Tryz.func16, Tryz.ntmps16
  go_wp2_with fail
  refine HS.out.mono ?_
  rintro e w1 ⟨rfl, hb1⟩
  have HV1 := Lib.hid (HV.out.below hb1)
  have HB1 := Lib.hid hb1
  clear hb1
  go_wp2_with fail
  refine (version_any D vb rb tn now master w1 HV1.out).mono ?_
  rintro e w1' ⟨rfl, rfl⟩
  go_wp2_with fail
  refine (HC.out w1).mono ?_
  rintro e w2 ⟨rfl, hb2⟩
  have HV2 := Lib.hid (HV1.out.below hb2)
  have HB2 := Lib.hid (HB1.out.trans (hb2.mono HB1.out.size))
  clear hb2
  go_wp2_with fail
  refine (HCI.out w2 (HP.out.1.1.on (HB2.out.mono HP.out.1.2.1)) (Nat.le_trans HP.out.1.2.1 HB2.out.size) HV2.out (fun k hk => Nat.lt_of_lt_of_le (HP.out.2 k hk) HB2.out.size)).mono ?_
  rintro e w3 ⟨gc, g, Bk, wb, rfl, hci, hb3, hVb, hFb⟩
  have HCP := Lib.hid hci
  have HB3 := Lib.hid hb3
  have HVB := Lib.hid hVb
  have HFB := Lib.hid (show Frame (fun k => k < w.heap.size ∧ k ≠ vb ∧ k ≠ rb) w wb from (Frame.of_below HB2.out (S := fun k => k < w.heap.size ∧ k ≠ vb ∧ k ≠ rb) (fun k hk => hk.1)).trans hFb (fun k hk => ⟨Nat.lt_of_lt_of_le hk.1 HB2.out.size, hk.2⟩))
  clear hci hb3 hVb hFb
  go_wp2_with fail
  refine (HE.out wb.heap.size Bk gc g w3 HCP.out HB3.out.size).mono ?_
  rintro e w4 ⟨rfl, hco⟩
  have HB4 := Lib.hid (HB3.out.trans (hco.toBelow HCP.out HB3.out.size))
  clear hco
  go_wp2_with fail
  refine (HIS.out w4).mono ?_
  rintro e w5 ⟨rfl, hb5⟩
  have HB5 := Lib.hid (HB4.out.trans (hb5.mono HB4.out.size))
  clear hb5
  have HFF := Lib.hid (HFB.out.trans (Frame.of_below HB5.out (S := fun k => k < wb.heap.size) (fun k hk => hk)) (fun k hk => Nat.lt_of_lt_of_le hk.1 HFB.out.size))
  cases bb
  · go_wp2_with fail
    go_ret2
    exact ⟨[], 11, rfl, rfl, HVB.out.below HB5.out, HFF.out⟩
  · go_wp2_with fail
    go_ret2
    exact ⟨amc, 0, rfl, ⟨rfl, rfl⟩, HVB.out.below HB5.out, HFF.out⟩
set_option maxRecDepth 100000 in
set_option maxHeartbeats 2000000 in
theorem vrenew_any (D : Nat → Prop) (vb rb tn now : Nat) (master p : List UInt8) (B : Nat) (w : World) (hT : Tb B w) (hB : B ≤ w.heap.size) (hBr : B ≤ rb) (hBv : B ≤ vb) (t1 : 1 ≤ tn) (t64 : tn ≤ 64) (v1 : 1 ≤ now) (v2 : now ≤ 255) (hV : Vlt w D vb rb tn now master) (hD : ∀ k, D k → k < w.heap.size) (hok : okP p = true) :
    Calls Tryz.prog 15 #[.pointer (some ⟨vb, 0, none⟩), .string (str (p ++ 46 :: [49]))] w fun e w' => ∃ r x, e = .returned (.tuple #[.string (str r), .int .i64 x]) ∧ Vlt w' D vb rb tn now master ∧ Frame (fun k => k < w.heap.size ∧ k ≠ vb ∧ k ≠ rb) w w' := by
  have HK := Lib.hid (vback_any D vb rb tn now master p B w hT hB hBr hBv t1 t64 v1 v2 hV hD hok)
  have HT := Lib.hid (fun w hT hB hV hD hp => vtoken_yes D vb rb tn now _ master (showL master tn 1 p) B w hT hB hBr hBv t1 t64 v1 v2 hV hD rfl hp)
  generalize showL master tn 1 p = q at *
  have HP := Lib.hid (And.intro (And.intro hT (And.intro hB (And.intro hBr hBv))) hD)
  obtain ⟨t, ht⟩ : ∃ t, str (p ++ 46 :: [49]) = t := ⟨_, rfl⟩
  rw [ht] at HK ⊢
  clear hok hT hB hBr hBv t1 t64 v1 v2 hV hD ht
  go_enter Tryz.func15, Tryz.ntmps15
  go_wp2_with fail
  refine HK.out.mono ?_
  rintro e w1 ⟨r, x, rfl, hy, hno, hV1, hF1⟩
  have HV1 := Lib.hid hV1
  have HF1 := Lib.hid hF1
  clear hV1 hF1
  cases hb : isP q with
  | false =>
    obtain rfl := hno hb
    clear hy hno hb
    go_wp2_with fail
    go_ret2
    exact ⟨[], 11, rfl, HV1.out, HF1.out⟩
  | true =>
    obtain ⟨rfl, rfl⟩ := hy hb
    have HQ := Lib.hid hb
    clear hy hno hb
    go_wp2_with fail
    refine (HT.out w1 (HP.out.1.1.on (HF1.out.toBelow (fun k hk => ⟨by have := HP.out.1.2.1; omega, by have := HP.out.1.2.2.2; omega, by have := HP.out.1.2.2.1; omega⟩))) (Nat.le_trans HP.out.1.2.1 HF1.out.size) HV1.out (fun k hk => Nat.lt_of_lt_of_le (HP.out.2 k hk) HF1.out.size) HQ.out).mono ?_
    rintro e w2 ⟨rfl, hV2, hF2⟩
    have HV2 := Lib.hid hV2
    have HF2 := Lib.hid (HF1.out.trans hF2 (fun k hk => ⟨Nat.lt_of_lt_of_le hk.1 HF1.out.size, hk.2⟩))
    clear hV2 hF2
    go_wp2_with fail
    go_ret2
    exact ⟨_, _, rfl, HV2.out, HF2.out⟩
end Go.Proofs.YtkgnnlglabihkaaGreatDoor.Top
