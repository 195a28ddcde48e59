/- Card numbers: strconv.Itoa, pan.Token. Contracts. -/
import Derived.Test.YtkgnnlglabihkaaGreatDoorTD
import Derived.Test.YtkgnnlglabihkaaGreatDoorTShelf
import Derived.Lib.AppendIntMem
import Derived.Tactics
import Derived.Tactics2
import Derived.Defers
import Derived.Laws.Pointers
import Derived.Laws.LoneSync
import Derived.RegionTactic
import Derived.RegionCalls
import Derived.ChangeAlike
namespace Go.Proofs.YtkgnnlglabihkaaGreatDoor.Top
open Go Go.ChangeShapes Go.WideShapes Go.ChangeAt Go.RowKit Go.Proofs.YtkgnnlglabihkaaGreatDoor.Aes Go.Proofs.YtkgnnlglabihkaaGreatDoor.Str
set_option linter.unusedVariables false
set_option linter.unusedSimpArgs false
/-- the table of the powers of ten, below block B -/
def Tb (B : Nat) (w : World) : Prop := Lib.TabBelow Tryz.prog B w "internal/strconv.uint64pow10" .u64 Lib.pow10Tab
theorem Tb.on {B : Nat} {w w' : World} (h : Tb B w) (hb : Below B w w') : Tb B w' := Lib.TabBelow.on h hb
theorem Tb.drew {B : Nat} {w : World} (h : Tb B w) : Tb B w.drew := h.on ((Below.refl _ _).drew)
theorem add_str (a b : List UInt8) (h : a.length + b.length ≤ 9223372036854775807) (w : World) : (Op.stringOp .add (str a) (str b)).run Tryz.prog w = .ok (.string (str (a ++ b))) w := by
  rw [run_string_add_sum w _ _ (by rw [str_sz rfl, str_sz rfl]; exact h), str_app]
def decN (n : Nat) : List UInt8 := Lib.itoa (n : Int)
theorem decN_len (n : Nat) (h : n ≤ 255) : (decN n).length ≤ 3 := by
  have hd : ∀ k, k < 10 → Lib.decDigits k = [UInt8.ofNat (48 + k)] := fun k hk => by rw [Lib.decDigits]; simp [hk]
  unfold decN Lib.itoa
  rw [if_neg (by omega), Int.toNat_natCast]
  rcases Nat.lt_or_ge n 10 with h1 | h1
  · rw [hd n h1]; simp
  · rw [Lib.decDigits, dif_neg (by omega)]
    rcases Nat.lt_or_ge n 100 with h2 | h2
    · rw [hd _ (by omega)]; simp
    · rw [Lib.decDigits, dif_neg (by omega), hd _ (by omega)]; simp
theorem itoa_any (n : Nat) (hn : n ≤ 255) (B : Nat) (w : World) (hT : Tb B w) :
    Calls Tryz.prog 42 #[.int .i64 (n : Int)] w fun e w' => e = .returned (.string (str (decN n))) ∧ Below w.heap.size w w' := by
  refine (Tryz.strconv_Itoa (n : Int) (by omega) (by omega) w (Lib.TabBelow.here hT)).mono ?_
  rintro e w' ⟨rfl, k, os, rfl⟩
  exact ⟨rfl, Lib.below_grow _ _ (Nat.le_refl _) _ _⟩
set_option maxRecDepth 100000 in
set_option maxHeartbeats 2000000 in
theorem ptoken_any (l : List UInt8) (n v : Nat) (hn : l.length = n) (hm : n ≤ 9223372036854775000) (hok : okP l = true) (h1 : 1 ≤ v) (h2 : v ≤ 255) (B : Nat) (w : World) (hT : Tb B w) (hB : B ≤ w.heap.size) :
    Calls Tryz.prog 22 #[.string (str l), .int .i64 (v : Int)] w fun e w' => e = .returned (.tuple #[.string (str (l ++ 46 :: decN v)), .int .i64 0]) ∧ Below w.heap.size w w' := by
  have HC := Lib.hid (fun w => cut_any l n hn hm w)
  have HS := Lib.hid (fun w => shaped_any l w)
  rw [hok] at HS
  have d1 : decide ((v : Int) < 1) = false := decide_eq_false (by omega)
  have d2 : decide ((255 : Int) < (v : Int)) = false := decide_eq_false (by omega)
  have HI := Lib.hid (fun w hT => itoa_any v h2 B w hT)
  have hl19 := ((okP_iff l).1 hok).2.2
  have hadd1 : ∀ w, (Op.stringOp .add (str l) { data := #[46] }).run Tryz.prog w = .ok (.string (str (l ++ [46]))) w := add_str l [46] (by simp; omega)
  have hadd2 : ∀ w, (Op.stringOp .add (str (l ++ [46])) (str (decN v))).run Tryz.prog w = .ok (.string (str (l ++ 46 :: decN v))) w := fun w => (add_str (l ++ [46]) (decN v) (by rw [List.length_append]; have := decN_len v h2; simp; omega) w).trans (by simp)
  clear hl19
  have HT := Lib.hid hT
  have HB := Lib.hid hB
  generalize cutP l = c at *
  generalize decN v = d at *
  clear hn hm hok h1 h2 hT hB
  go_enter Tryz.func22, Tryz.ntmps22
  go_wp2_with fail
  refine (HC.out _).mono ?_
  rintro e w1 ⟨rfl, hb1⟩
  have HB1 := Lib.hid hb1
  clear hb1
  unfold partsV
  go_wp2_with fail
  refine (HS.out _).mono ?_
  rintro e w2 ⟨rfl, hb2⟩
  have HB2 := Lib.hid (HB1.out.trans (hb2.mono HB1.out.size))
  clear hb2
  go_wp2_with fail
  refine (HI.out _ (HT.out.on (HB2.out.mono HB.out))).mono ?_
  rintro e w3 ⟨rfl, hb3⟩
  have HB3 := Lib.hid (HB2.out.trans (hb3.mono HB2.out.size))
  clear hb3
  go_wp2_with fail
  go_ret2
  exact ⟨rfl, HB3.out⟩
end Go.Proofs.YtkgnnlglabihkaaGreatDoor.Top

/- Card numbers: strings.Cut at a full stop, pan.Split of a token of version 1. Contracts. -/
namespace Go.Proofs.YtkgnnlglabihkaaGreatDoor.Top
open Go Go.ChangeShapes Go.WideShapes Go.ChangeAt Go.RowKit Go.Proofs.YtkgnnlglabihkaaGreatDoor.Aes Go.Proofs.YtkgnnlglabihkaaGreatDoor.Str
set_option linter.unusedVariables false
set_option linter.unusedSimpArgs false
theorem decN_one : decN 1 = [49] := by
  unfold decN Lib.itoa
  rw [if_neg (by omega), Int.toNat_natCast, Lib.decDigits]
  rfl
theorem index_dot (p d : List UInt8) (h : allD p = true) : Lib.indexByte (p ++ 46 :: d) 46 = (p.length : Int) := by
  induction p with
  | nil => simp [Lib.indexByte]
  | cons a p ih =>
    have ha : isDb a = true ∧ allD p = true := by simpa [allD] using h
    have hne : (a == 46) = false := by
      rw [beq_eq_false_iff_ne]
      rintro rfl
      exact absurd ha.1 (by decide)
    show (if a == 46 then 0 else if Lib.indexByte (p ++ 46 :: d) 46 == -1 then -1 else Lib.indexByte (p ++ 46 :: d) 46 + 1) = _
    rw [hne, ih ha.2]
    have : ((p.length : Int) == -1) = false := by rw [beq_eq_false_iff_ne]; omega
    rw [this]
    simp
theorem index_any (p d : List UInt8) (n : Nat) (hn : p.length = n) (h : allD p = true) (w : World) :
    Calls Tryz.prog 96 #[.string (str (p ++ 46 :: d)), .string ⟨#[46]⟩] w fun e w' => e = .returned (.int .i64 (n : Int)) ∧ w = w' := by
  refine (Tryz.stringslite_Index_one (str (p ++ 46 :: d)) 46 w).mono ?_
  rintro e w' ⟨rfl, rfl⟩
  refine ⟨?_, rfl⟩
  have : (str (p ++ 46 :: d)).data.toList = p ++ 46 :: d := by simp [str]
  rw [this, index_dot p d h, hn]
set_option maxRecDepth 100000 in
set_option maxHeartbeats 2000000 in
theorem cuts_any (p d : List UInt8) (n : Nat) (hn : p.length = n) (h : allD p = true) (h19 : n ≤ 19) (w : World) :
    Calls Tryz.prog 78 #[.string (str (p ++ 46 :: d)), .string ⟨#[46]⟩] w fun e w' => e = .returned (.tuple #[.string (str p), .string (str d), .bool true]) ∧ Below w.heap.size w w' := by
  have HI := Lib.hid (fun w => index_any p d n hn h w)
  have d1 : decide ((n : Int) < 0) = false := decide_eq_false (by omega)
  have d0 : decide ((0 : Int) ≤ (n : Int)) = true := decide_eq_true (by omega)
  have hs1 : ∀ w, (Instr.slice 9 (.string (str (p ++ 46 :: d))) none (some (.int .i64 (n : Int))) none).run Tryz.prog w = .ok (.string (str p)) w := fun w =>
    (str_head (p ++ 46 :: d) _ n rfl (by simp; omega) w).trans (by rw [List.take_append_of_le_length (by omega), List.take_of_length_le (by omega)])
  obtain ⟨k, hk⟩ : ∃ k, n + 1 = k := ⟨_, rfl⟩
  have hki : IntKind.i64.wrap ((n : Int) + 1) = (k : Int) := by rw [IntKind.wrap_i64]; omega
  have hs2 : ∀ w, (Instr.slice 9 (.string (str (p ++ 46 :: d))) (some (.int .i64 (k : Int))) none none).run Tryz.prog w = .ok (.string (str d)) w := fun w =>
    (str_tail (p ++ 46 :: d) _ k rfl (by simp; omega) w).trans (by rw [← hk, ← hn, List.drop_append]; simp [List.drop_eq_nil_of_le])
  have HKI := Lib.hid hki
  clear hn h h19 hk
  go_enter Tryz.func78, Tryz.ntmps78
  go_wp2_with fail
  refine (HI.out _).mono ?_
  rintro e w1 ⟨rfl, rfl⟩
  go_wp2_with fail
  go_quiet (fail)
  go_wp2_with fail
  go_ret3
  exact ⟨rfl, below_drewN _ _ _⟩
set_option maxRecDepth 100000 in
theorem scut_any (p d : List UInt8) (n : Nat) (hn : p.length = n) (h : allD p = true) (h19 : n ≤ 19) (w : World) :
    Calls Tryz.prog 59 #[.string (str (p ++ 46 :: d)), .string ⟨#[46]⟩] w fun e w' => e = .returned (.tuple #[.string (str p), .string (str d), .bool true]) ∧ Below w.heap.size w w' := by
  have HI := Lib.hid (fun w => cuts_any p d n hn h h19 w)
  clear hn h h19
  go_enter Tryz.func59, Tryz.ntmps59
  go_wp2_with fail
  refine (HI.out _).mono ?_
  rintro e w1 ⟨rfl, hb1⟩
  have HB1 := Lib.hid hb1
  clear hb1
  go_wp2_with fail
  go_ret3
  exact ⟨rfl, HB1.out⟩
set_option maxRecDepth 100000 in
set_option maxHeartbeats 2000000 in
theorem split_any (l : List UInt8) (hok : okP l = true) (B : Nat) (w : World) (hT : Tb B w) (hB : B ≤ w.heap.size) :
    Calls Tryz.prog 35 #[.string (str (l ++ 46 :: [49]))] w fun e w' => e = .returned (.tuple #[.string (str l), .int .i64 1, .int .i64 0]) ∧ Below w.heap.size w w' := by
  obtain ⟨n, hn⟩ : ∃ n, l.length = n := ⟨_, rfl⟩
  have hq := (okP_iff l).1 hok
  have HC := Lib.hid (fun w => scut_any l [49] n hn hq.1 (by omega) w)
  have HN := Lib.hid (fun w => number_any [49] 1 rfl (by omega) (by omega) (by decide) w)
  rw [show ((numD [49] : Nat) : Int) = 1 from rfl] at HN
  have HK := Lib.hid (fun w hT hB => ptoken_any l n 1 hn (by omega) hok (by omega) (by omega) B w hT hB)
  rw [show ((1 : Nat) : Int) = 1 from rfl, decN_one] at HK
  have HT := Lib.hid hT
  have HB := Lib.hid hB
  clear hn hq hok hT hB
  obtain ⟨t, ht⟩ : ∃ t, str (l ++ 46 :: [49]) = t := ⟨_, rfl⟩
  rw [ht] at HC HK ⊢
  clear ht
  go_enter Tryz.func35, Tryz.ntmps35
  go_wp2_with fail
  refine (HC.out _).mono ?_
  rintro e w1 ⟨rfl, hb1⟩
  have HB1 := Lib.hid hb1
  clear hb1
  go_wp2_with fail
  refine (HN.out _).mono ?_
  rintro e w2 ⟨rfl, rfl⟩
  go_wp2_with fail
  refine (HK.out _ (HT.out.on (HB1.out.mono HB.out)) (Nat.le_trans HB.out HB1.out.size)).mono ?_
  rintro e w3 ⟨rfl, hb3⟩
  have HB3 := Lib.hid (HB1.out.trans (hb3.mono HB1.out.size))
  clear hb3
  go_wp2_with fail
  go_ret3
  exact ⟨rfl, HB3.out⟩
end Go.Proofs.YtkgnnlglabihkaaGreatDoor.Top

/- Keys: Name, New. Contracts. -/
namespace Go.Proofs.YtkgnnlglabihkaaGreatDoor.Top
open Go Go.ChangeShapes Go.WideShapes Go.ChangeAt Go.RowKit Go.Proofs.YtkgnnlglabihkaaGreatDoor.Aes Go.Proofs.YtkgnnlglabihkaaGreatDoor.Str
set_option linter.unusedVariables false
set_option linter.unusedSimpArgs false
def tokenL : List UInt8 := [116, 111, 107, 101, 110]
def versionL : List UInt8 := [118, 101, 114, 115, 105, 111, 110]
def tenantL : List UInt8 := [116, 101, 110, 97, 110, 116]
set_option maxRecDepth 100000 in
set_option maxHeartbeats 2000000 in
theorem name_any (w : World) :
    Calls Tryz.prog 39 #[.int .i64 1] w fun e w' => e = .returned (.tuple #[.string (str tokenL), .bool true]) ∧ Below w.heap.size w w' := by
  go_enter Tryz.func39, Tryz.ntmps39
  go_wp2_with fail
  go_ret2
  exact ⟨rfl, (Below.refl _ _).alloc (Nat.le_refl _) _⟩
/-- a ring's cells: the master, then four a tenant -/
def slotV (j : Nat) : Value := if j % 4 = 0 then .int .u32 0 else if j % 4 = 1 then .int .i32 0 else if j % 4 = 2 then .int .u32 0 else .slice none 0 0
def ringL (m : Value) : List Value := m :: (List.range 260).map slotV
theorem ringL_at (m : Value) (j : Nat) (h : j < 260) : (ringL m)[1 + j]? = some (slotV j) := by
  unfold ringL
  rw [Nat.add_comm, List.getElem?_cons_succ, List.getElem?_map, List.getElem?_range h]
  rfl
set_option maxRecDepth 100000 in
theorem run_build_ring (A : Option Addr) (n c : Nat) (w : World) : (Instr.build 95 #[(0, .slice A n c)]).run Tryz.prog w = .ok (.agg (ringL (.slice A n c)).toArray) w := by kernel_rfl
theorem wpList_build_ring {ops : Array Oper} {rest : List Oper} {o : Oper} {a : Act} {w : World} {Q : Exit → Act → World → Prop} (hgd : o.guard = none) (x : Operand) (ho : o.op = .build 95 #[(0, x)]) (A : Option Addr) (n c : Nat) (hx : a.eval x = .slice A n c)
    (h : wpList Tryz.prog ops Q rest (a.put o.dst (.agg (ringL (.slice A n c)).toArray)) w) : wpList Tryz.prog ops Q (o :: rest) a w := by
  refine wpList_plain hgd fun _ hK => ?_
  have hr := run_build_ring A n c w
  unfold Oper.wp execOp
  simp only [ho, List.map_toArray, List.map_cons, List.map_nil, hx, hr, Sem.run_bind, Sem.run_pure, Result.andThen_ok]
  exact hK _ _ h
set_option maxRecDepth 100000 in
set_option maxHeartbeats 1000000 in
theorem knew_yes (A : Option Addr) (n c : Nat) (l : List UInt8) (w : World) (hn : l.length = n) (hr : Rd w w.heap.size A l) (h16 : 16 ≤ n) (h64 : n ≤ 64) :
    Calls Tryz.prog 14 #[.slice A n c] w fun e w' => ∃ g A1 c1, e = .returned (.tuple #[.pointer (some ⟨g, 0, none⟩), .int .i64 0]) ∧ w.heap.size ≤ g ∧ Aes.RowV w' 95 g (ringL (.slice A1 n c1)) ∧ Own w' 5 w.heap.size (.slice A1 n c1) l ∧ (∀ a, A1 = some a → a.block < g) ∧ Below w.heap.size w w' := by
  have d1 : decide ((n : Int) < 16) = false := decide_eq_false (by omega)
  have d2 : decide ((64 : Int) < (n : Int)) = false := decide_eq_false (by omega)
  have HC := Lib.hid (fun w (hr : Rd w w.heap.size A l) => bclone_any A n c l w w.heap.size (Nat.le_refl _) hn (by omega) hr)
  have HR := Lib.hid hr
  have HN := Lib.hid hn
  clear hn hr h16 h64
  go_enter Tryz.func14, Tryz.ntmps14
  go_wp2_with fail
  refine (HC.out _ HR.out).mono ?_
  rintro e w1 ⟨v, rfl, hO, hb⟩
  obtain ⟨A1, c1, rfl, _, _⟩ := hO.form
  rw [HN.out] at hO ⊢
  have HO := Lib.hid hO
  have HB := Lib.hid hb
  clear hO hb
  go_wp2_with (with_reducible refine at_slot 14 ?_
               refine wpList_build_ring rfl _ rfl A1 _ c1 rfl ?_)
  go_ret2
  refine ⟨w1.heap.size, A1, c1, rfl, HB.out.size, heap_alloc_new w1 _, HO.out.alloc _, fun a ha => ?_, HB.out.alloc HB.out.size _⟩
  subst ha
  exact (HO.out.lt _ rfl).2
theorem knew_no (A : Option Addr) (n c : Nat) (w : World) (h : n < 16 ∨ 64 < n) :
    Calls Tryz.prog 14 #[.slice A n c] w fun e w' => e = .returned (.tuple #[.pointer none, .int .i64 1]) ∧ w = w' := by
  by_cases h1 : n < 16
  · have d1 : decide ((n : Int) < 16) = true := decide_eq_true (by omega)
    clear h h1
    go_enter Tryz.func14, Tryz.ntmps14
    go_wp2_with fail
    go_ret2
    exact ⟨rfl, rfl⟩
  · have d1 : decide ((n : Int) < 16) = false := decide_eq_false (by omega)
    have d2 : decide ((64 : Int) < (n : Int)) = true := decide_eq_true (by omega)
    clear h h1
    go_enter Tryz.func14, Tryz.ntmps14
    go_wp2_with fail
    go_ret2
    exact ⟨rfl, rfl⟩
end Go.Proofs.YtkgnnlglabihkaaGreatDoor.Top

/- sync.Once.Do at the closures of (*Ring).Key and (*Vault).key. Contracts. -/
namespace Go.Proofs.YtkgnnlglabihkaaGreatDoor.Top
open Go Go.ChangeShapes Go.WideShapes Go.ChangeAt Go.RowKit Go.Proofs.YtkgnnlglabihkaaGreatDoor.Aes
set_option linter.unusedVariables false
set_option linter.unusedSimpArgs false
set_option maxRecDepth 100000 in
set_option maxHeartbeats 1600000 in
theorem slow_ring (b off : Nat) (p0 p1 p2 : Addr) (w : World) (P : World → Prop)
    (h0 : w.cell? ⟨b, off, none⟩ = some (.int .u32 0)) (h1 : w.cell? ⟨b, off + 1, none⟩ = some (.int .i32 0)) (f1 : w.frozen? ⟨b, off + 1, none⟩ = false)
    (hF : Calls Tryz.prog 41 #[.pointer (some p0), .pointer (some p1), .pointer (some p2)] (w.setCell ⟨b, off + 1, none⟩ (.int .i32 1)) fun e w' => e = .returned (.tuple #[]) ∧ P w' ∧ Locked w' b off) :
    Calls Tryz.prog 65 #[.pointer (some ⟨b, off, none⟩), .func (.func 41) #[] #[.pointer (some p0), .pointer (some p1), .pointer (some p2)]] w fun e w' => e = .returned (.tuple #[]) ∧ ∃ w2, P w2 ∧ w' = (w2.drew.setCell ⟨b, off, none⟩ (.int .u32 1)).setCell ⟨b, off + 1, none⟩ (.int .i32 0) := by
  have hl := run_call_load (P := Tryz.prog) Tryz.func80 (by kernel_rfl) (by kernel_rfl) (by kernel_rfl) .u32 (by kernel_rfl) (w := w.setCell ⟨b, off + 1, none⟩ (.int .i32 1)) (a := ⟨b, off, none⟩) (x := 0) ((World.cell?_setCell_other _ ⟨b, off + 1, none⟩ ⟨b, off, none⟩ _ (by simp)).trans h0)
  have hnot : ∀ (x : Bool) (w : World), (Op.unary .not (.bool x)).run Tryz.prog w = .ok (.bool (!x)) w := fun _ _ => rfl
  have HF := Lib.hid hF
  clear hF
  go_enter_defers Tryz.func65, Tryz.ntmps65
  go_wp2_with (first
    | (go_at_call 81; refine (lock_free ⟨b, off + 1, none⟩ _ (by go_simp) (by go_simp)).mono ?_; rintro e w' ⟨rfl, rfl⟩)
    | (go_at_call 64; go_in)
    | (go_at_call 41; refine HF.out.mono ?_; rintro e w2 ⟨rfl, hP, hL⟩))
  obtain ⟨⟨x, hd⟩, fd, hs, fs⟩ := hL
  refine leaves_cons (f := 83) (args := #[.pointer (some ⟨b, off, none⟩), .bool true]) (by simp) (by simp [go_sem]) ?_
  refine (store_deferred ⟨b, off, none⟩ x .returning _ hd fd).mono ?_
  rintro e u' w'' ⟨rfl, rfl, rfl⟩
  refine leaves_cons (f := 82) (args := #[.pointer (some ⟨b, off + 1, none⟩)]) (by simp [settle]) (by simp [go_sem]) ?_
  refine (unlock_deferred ⟨b, off + 1, none⟩ _ _ ?_ (by simp [fs])).mono ?_
  · refine (World.cell?_setCell_other _ ⟨b, off, none⟩ ⟨b, off + 1, none⟩ _ (by simp)).trans ?_
    rw [World.cell?_drew]
    exact hs
  rintro e u' w'' ⟨rfl, rfl, rfl⟩
  simp [Leaves, settle, results, Tryz.results65]
  exact ⟨w2, hP, rfl⟩
set_option maxRecDepth 100000 in
set_option maxHeartbeats 1600000 in
theorem do_ring (b off : Nat) (p0 p1 p2 : Addr) (w : World) (P : World → Prop)
    (h0 : w.cell? ⟨b, off, none⟩ = some (.int .u32 0)) (h1 : w.cell? ⟨b, off + 1, none⟩ = some (.int .i32 0)) (f1 : w.frozen? ⟨b, off + 1, none⟩ = false)
    (hF : Calls Tryz.prog 41 #[.pointer (some p0), .pointer (some p1), .pointer (some p2)] (w.setCell ⟨b, off + 1, none⟩ (.int .i32 1)) fun e w' => e = .returned (.tuple #[]) ∧ P w' ∧ Locked w' b off) :
    Calls Tryz.prog 40 #[.pointer (some ⟨b, off, none⟩), .func (.func 41) #[] #[.pointer (some p0), .pointer (some p1), .pointer (some p2)]] w fun e w' => e = .returned (.tuple #[]) ∧ ∃ w2, P w2 ∧ w' = (w2.drew.setCell ⟨b, off, none⟩ (.int .u32 1)).setCell ⟨b, off + 1, none⟩ (.int .i32 0) := by
  have hl := run_call_load (P := Tryz.prog) Tryz.func80 (by kernel_rfl) (by kernel_rfl) (by kernel_rfl) .u32 (by kernel_rfl) h0
  have hnot : ∀ (x : Bool) (w : World), (Op.unary .not (.bool x)).run Tryz.prog w = .ok (.bool (!x)) w := fun _ _ => rfl
  have hslow := Lib.hid (slow_ring b off p0 p1 p2 w P h0 h1 f1 hF)
  clear hF
  go_enter Tryz.func40, Tryz.ntmps40
  go_wp2_with (first | (go_at_call 65; refine hslow.out.mono ?_; rintro e w' ⟨rfl, hw⟩) | (go_at_call 64; go_in))
  go_end0
  exact ⟨rfl, hw⟩
set_option maxRecDepth 100000 in
set_option maxHeartbeats 1600000 in
theorem slow_vault (b off : Nat) (p0 p1 p2 : Addr) (w : World) (P : World → Prop)
    (h0 : w.cell? ⟨b, off, none⟩ = some (.int .u32 0)) (h1 : w.cell? ⟨b, off + 1, none⟩ = some (.int .i32 0)) (f1 : w.frozen? ⟨b, off + 1, none⟩ = false)
    (hF : Calls Tryz.prog 67 #[.pointer (some p0), .pointer (some p1), .pointer (some p2)] (w.setCell ⟨b, off + 1, none⟩ (.int .i32 1)) fun e w' => e = .returned (.tuple #[]) ∧ P w' ∧ Locked w' b off) :
    Calls Tryz.prog 65 #[.pointer (some ⟨b, off, none⟩), .func (.func 67) #[] #[.pointer (some p0), .pointer (some p1), .pointer (some p2)]] w fun e w' => e = .returned (.tuple #[]) ∧ ∃ w2, P w2 ∧ w' = (w2.drew.setCell ⟨b, off, none⟩ (.int .u32 1)).setCell ⟨b, off + 1, none⟩ (.int .i32 0) := by
  have hl := run_call_load (P := Tryz.prog) Tryz.func80 (by kernel_rfl) (by kernel_rfl) (by kernel_rfl) .u32 (by kernel_rfl) (w := w.setCell ⟨b, off + 1, none⟩ (.int .i32 1)) (a := ⟨b, off, none⟩) (x := 0) ((World.cell?_setCell_other _ ⟨b, off + 1, none⟩ ⟨b, off, none⟩ _ (by simp)).trans h0)
  have hnot : ∀ (x : Bool) (w : World), (Op.unary .not (.bool x)).run Tryz.prog w = .ok (.bool (!x)) w := fun _ _ => rfl
  have HF := Lib.hid hF
  clear hF
  go_enter_defers Tryz.func65, Tryz.ntmps65
  go_wp2_with (first
    | (go_at_call 81; refine (lock_free ⟨b, off + 1, none⟩ _ (by go_simp) (by go_simp)).mono ?_; rintro e w' ⟨rfl, rfl⟩)
    | (go_at_call 64; go_in)
    | (go_at_call 67; refine HF.out.mono ?_; rintro e w2 ⟨rfl, hP, hL⟩))
  obtain ⟨⟨x, hd⟩, fd, hs, fs⟩ := hL
  refine leaves_cons (f := 83) (args := #[.pointer (some ⟨b, off, none⟩), .bool true]) (by simp) (by simp [go_sem]) ?_
  refine (store_deferred ⟨b, off, none⟩ x .returning _ hd fd).mono ?_
  rintro e u' w'' ⟨rfl, rfl, rfl⟩
  refine leaves_cons (f := 82) (args := #[.pointer (some ⟨b, off + 1, none⟩)]) (by simp [settle]) (by simp [go_sem]) ?_
  refine (unlock_deferred ⟨b, off + 1, none⟩ _ _ ?_ (by simp [fs])).mono ?_
  · refine (World.cell?_setCell_other _ ⟨b, off, none⟩ ⟨b, off + 1, none⟩ _ (by simp)).trans ?_
    rw [World.cell?_drew]
    exact hs
  rintro e u' w'' ⟨rfl, rfl, rfl⟩
  simp [Leaves, settle, results, Tryz.results65]
  exact ⟨w2, hP, rfl⟩
set_option maxRecDepth 100000 in
set_option maxHeartbeats 1600000 in
theorem do_vault (b off : Nat) (p0 p1 p2 : Addr) (w : World) (P : World → Prop)
    (h0 : w.cell? ⟨b, off, none⟩ = some (.int .u32 0)) (h1 : w.cell? ⟨b, off + 1, none⟩ = some (.int .i32 0)) (f1 : w.frozen? ⟨b, off + 1, none⟩ = false)
    (hF : Calls Tryz.prog 67 #[.pointer (some p0), .pointer (some p1), .pointer (some p2)] (w.setCell ⟨b, off + 1, none⟩ (.int .i32 1)) fun e w' => e = .returned (.tuple #[]) ∧ P w' ∧ Locked w' b off) :
    Calls Tryz.prog 40 #[.pointer (some ⟨b, off, none⟩), .func (.func 67) #[] #[.pointer (some p0), .pointer (some p1), .pointer (some p2)]] w fun e w' => e = .returned (.tuple #[]) ∧ ∃ w2, P w2 ∧ w' = (w2.drew.setCell ⟨b, off, none⟩ (.int .u32 1)).setCell ⟨b, off + 1, none⟩ (.int .i32 0) := by
  have hl := run_call_load (P := Tryz.prog) Tryz.func80 (by kernel_rfl) (by kernel_rfl) (by kernel_rfl) .u32 (by kernel_rfl) h0
  have hnot : ∀ (x : Bool) (w : World), (Op.unary .not (.bool x)).run Tryz.prog w = .ok (.bool (!x)) w := fun _ _ => rfl
  have hslow := Lib.hid (slow_vault b off p0 p1 p2 w P h0 h1 f1 hF)
  clear hF
  go_enter Tryz.func40, Tryz.ntmps40
  go_wp2_with (first | (go_at_call 65; refine hslow.out.mono ?_; rintro e w' ⟨rfl, hw⟩) | (go_at_call 64; go_in))
  go_end0
  exact ⟨rfl, hw⟩
end Go.Proofs.YtkgnnlglabihkaaGreatDoor.Top
