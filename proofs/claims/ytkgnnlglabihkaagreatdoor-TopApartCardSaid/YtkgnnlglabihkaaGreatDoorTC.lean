/- FF1: halves, join. Contracts. Written by gen_ffe.py. -/
import Derived.Test.YtkgnnlglabihkaaGreatDoorTFfm
namespace Go.Proofs.YtkgnnlglabihkaaGreatDoor.Top
open Go Go.ChangeShapes Go.WideShapes Go.ChangeAt Go.RowKit Go.Proofs.YtkgnnlglabihkaaGreatDoor.Aes Go.Proofs.YtkgnnlglabihkaaGreatDoor.Str Go.Proofs.YtkgnnlglabihkaaGreatDoor.Box
set_option linter.unusedVariables false
set_option linter.unusedSimpArgs false
theorem allD_take {l : List UInt8} (h : allD l = true) (k : Nat) : allD (l.take k) = true := by
  unfold allD at *
  rw [List.all_eq_true] at *
  exact fun x hx => h x (List.mem_of_mem_take hx)
theorem allD_drop {l : List UInt8} (h : allD l = true) (k : Nat) : allD (l.drop k) = true := by
  unfold allD at *
  rw [List.all_eq_true] at *
  exact fun x hx => h x (List.mem_of_mem_drop hx)
theorem numD_all {l : List UInt8} (h : allD l = true) : numD l < 10 ^ l.length := by
  have := numD_lt (l := l) ((allD_iff l).1 h) l.length (Nat.le_refl _)
  rwa [List.take_length] at this
set_option maxRecDepth 100000 in
theorem may6 (w : World) : Calls Tryz.prog 50 #[.int .i64 6] w fun e w' => e = .returned (.bool true) ∧ w = w' := by
  go_enter Tryz.func50, Tryz.ntmps50
  go_wp2
  go_ret
  first | exact ⟨rfl, rfl⟩ | rfl | trivial
set_option maxRecDepth 100000 in
theorem halves6 (l : List UInt8) (hn : l.length = 6) (hd : allD l = true) (w : World) :
    Calls Tryz.prog 30 #[.string (str l)] w fun e w' => e = .returned (.tuple #[.int .i64 (numD (l.take 3) : Int), .int .i64 (numD (l.drop 3) : Int), .int .i64 0]) ∧ w = w' := by
  have hs1 : ∀ w, (Instr.slice 9 (.string (str l)) none (some (.int .i64 3)) none).run Tryz.prog w = .ok (.string (str (l.take 3))) w := str_head l 6 3 hn (by omega)
  have hs2 : ∀ w, (Instr.slice 9 (.string (str l)) (some (.int .i64 3)) none none).run Tryz.prog w = .ok (.string (str (l.drop 3))) w := str_tail l 6 3 hn (by omega)
  have H1 := Lib.hid (fun w => value_any (l.take 3) 3 (by rw [List.length_take, hn]; rfl) (by omega) (by omega) (allD_take hd _) w)
  have H2 := Lib.hid (fun w => value_any (l.drop 3) 3 (by rw [List.length_drop, hn]) (by omega) (by omega) (allD_drop hd _) w)
  have hsz := str_sz hn
  clear hn hd
  go_enter Tryz.func30, Tryz.ntmps30
  go_wp2_with fail
  refine (may6 _).mono ?_
  rintro e w1 ⟨rfl, rfl⟩
  go_wp2_with fail
  refine (H1.out _).mono ?_
  rintro e w2 ⟨rfl, rfl⟩
  go_wp2_with fail
  refine (H2.out _).mono ?_
  rintro e w3 ⟨rfl, rfl⟩
  go_wp2_with fail
  go_ret3
  first | exact ⟨rfl, rfl⟩ | trivial
set_option maxRecDepth 100000 in
theorem joins6 (a b : Nat) (ha : a < 10 ^ 3) (hb : b < 10 ^ 3) (w : World) :
    Calls Tryz.prog 34 #[.int .i64 6, .int .i64 (a : Int), .int .i64 (b : Int)] w fun e w' => e = .returned (.string (str (textL a 3 ++ textL b 3))) ∧ Below w.heap.size w w' := by
  have H1 := Lib.hid (fun w => digits_any a 3 (by omega) (by omega) ha w)
  have H2 := Lib.hid (fun w => digits_any b 3 (by omega) (by omega) hb w)
  have HS := Lib.hid (str_app (textL a 3) (textL b 3))
  clear ha hb
  go_enter Tryz.func34, Tryz.ntmps34
  go_wp2_with fail
  refine (H1.out _).mono ?_
  rintro e w1 ⟨rfl, hb1⟩
  have HB1 := Lib.hid hb1
  clear hb1
  go_wp2_with fail
  refine (H2.out _).mono ?_
  rintro e w2 ⟨rfl, hb2⟩
  have HB2 := Lib.hid (HB1.out.trans (hb2.mono HB1.out.size))
  clear hb2
  go_wp2_with fail
  go_ret
  exact ⟨by rw [← HS.out]; rfl, HB2.out⟩
set_option maxRecDepth 100000 in
theorem may7 (w : World) : Calls Tryz.prog 50 #[.int .i64 7] w fun e w' => e = .returned (.bool true) ∧ w = w' := by
  go_enter Tryz.func50, Tryz.ntmps50
  go_wp2
  go_ret
  first | exact ⟨rfl, rfl⟩ | rfl | trivial
set_option maxRecDepth 100000 in
theorem halves7 (l : List UInt8) (hn : l.length = 7) (hd : allD l = true) (w : World) :
    Calls Tryz.prog 30 #[.string (str l)] w fun e w' => e = .returned (.tuple #[.int .i64 (numD (l.take 3) : Int), .int .i64 (numD (l.drop 3) : Int), .int .i64 0]) ∧ w = w' := by
  have hs1 : ∀ w, (Instr.slice 9 (.string (str l)) none (some (.int .i64 3)) none).run Tryz.prog w = .ok (.string (str (l.take 3))) w := str_head l 7 3 hn (by omega)
  have hs2 : ∀ w, (Instr.slice 9 (.string (str l)) (some (.int .i64 3)) none none).run Tryz.prog w = .ok (.string (str (l.drop 3))) w := str_tail l 7 3 hn (by omega)
  have H1 := Lib.hid (fun w => value_any (l.take 3) 3 (by rw [List.length_take, hn]; rfl) (by omega) (by omega) (allD_take hd _) w)
  have H2 := Lib.hid (fun w => value_any (l.drop 3) 4 (by rw [List.length_drop, hn]) (by omega) (by omega) (allD_drop hd _) w)
  have hsz := str_sz hn
  clear hn hd
  go_enter Tryz.func30, Tryz.ntmps30
  go_wp2_with fail
  refine (may7 _).mono ?_
  rintro e w1 ⟨rfl, rfl⟩
  go_wp2_with fail
  refine (H1.out _).mono ?_
  rintro e w2 ⟨rfl, rfl⟩
  go_wp2_with fail
  refine (H2.out _).mono ?_
  rintro e w3 ⟨rfl, rfl⟩
  go_wp2_with fail
  go_ret3
  first | exact ⟨rfl, rfl⟩ | trivial
set_option maxRecDepth 100000 in
theorem joins7 (a b : Nat) (ha : a < 10 ^ 3) (hb : b < 10 ^ 4) (w : World) :
    Calls Tryz.prog 34 #[.int .i64 7, .int .i64 (a : Int), .int .i64 (b : Int)] w fun e w' => e = .returned (.string (str (textL a 3 ++ textL b 4))) ∧ Below w.heap.size w w' := by
  have H1 := Lib.hid (fun w => digits_any a 3 (by omega) (by omega) ha w)
  have H2 := Lib.hid (fun w => digits_any b 4 (by omega) (by omega) hb w)
  have HS := Lib.hid (str_app (textL a 3) (textL b 4))
  clear ha hb
  go_enter Tryz.func34, Tryz.ntmps34
  go_wp2_with fail
  refine (H1.out _).mono ?_
  rintro e w1 ⟨rfl, hb1⟩
  have HB1 := Lib.hid hb1
  clear hb1
  go_wp2_with fail
  refine (H2.out _).mono ?_
  rintro e w2 ⟨rfl, hb2⟩
  have HB2 := Lib.hid (HB1.out.trans (hb2.mono HB1.out.size))
  clear hb2
  go_wp2_with fail
  go_ret
  exact ⟨by rw [← HS.out]; rfl, HB2.out⟩
set_option maxRecDepth 100000 in
theorem may8 (w : World) : Calls Tryz.prog 50 #[.int .i64 8] w fun e w' => e = .returned (.bool true) ∧ w = w' := by
  go_enter Tryz.func50, Tryz.ntmps50
  go_wp2
  go_ret
  first | exact ⟨rfl, rfl⟩ | rfl | trivial
set_option maxRecDepth 100000 in
theorem halves8 (l : List UInt8) (hn : l.length = 8) (hd : allD l = true) (w : World) :
    Calls Tryz.prog 30 #[.string (str l)] w fun e w' => e = .returned (.tuple #[.int .i64 (numD (l.take 4) : Int), .int .i64 (numD (l.drop 4) : Int), .int .i64 0]) ∧ w = w' := by
  have hs1 : ∀ w, (Instr.slice 9 (.string (str l)) none (some (.int .i64 4)) none).run Tryz.prog w = .ok (.string (str (l.take 4))) w := str_head l 8 4 hn (by omega)
  have hs2 : ∀ w, (Instr.slice 9 (.string (str l)) (some (.int .i64 4)) none none).run Tryz.prog w = .ok (.string (str (l.drop 4))) w := str_tail l 8 4 hn (by omega)
  have H1 := Lib.hid (fun w => value_any (l.take 4) 4 (by rw [List.length_take, hn]; rfl) (by omega) (by omega) (allD_take hd _) w)
  have H2 := Lib.hid (fun w => value_any (l.drop 4) 4 (by rw [List.length_drop, hn]) (by omega) (by omega) (allD_drop hd _) w)
  have hsz := str_sz hn
  clear hn hd
  go_enter Tryz.func30, Tryz.ntmps30
  go_wp2_with fail
  refine (may8 _).mono ?_
  rintro e w1 ⟨rfl, rfl⟩
  go_wp2_with fail
  refine (H1.out _).mono ?_
  rintro e w2 ⟨rfl, rfl⟩
  go_wp2_with fail
  refine (H2.out _).mono ?_
  rintro e w3 ⟨rfl, rfl⟩
  go_wp2_with fail
  go_ret3
  first | exact ⟨rfl, rfl⟩ | trivial
set_option maxRecDepth 100000 in
theorem joins8 (a b : Nat) (ha : a < 10 ^ 4) (hb : b < 10 ^ 4) (w : World) :
    Calls Tryz.prog 34 #[.int .i64 8, .int .i64 (a : Int), .int .i64 (b : Int)] w fun e w' => e = .returned (.string (str (textL a 4 ++ textL b 4))) ∧ Below w.heap.size w w' := by
  have H1 := Lib.hid (fun w => digits_any a 4 (by omega) (by omega) ha w)
  have H2 := Lib.hid (fun w => digits_any b 4 (by omega) (by omega) hb w)
  have HS := Lib.hid (str_app (textL a 4) (textL b 4))
  clear ha hb
  go_enter Tryz.func34, Tryz.ntmps34
  go_wp2_with fail
  refine (H1.out _).mono ?_
  rintro e w1 ⟨rfl, hb1⟩
  have HB1 := Lib.hid hb1
  clear hb1
  go_wp2_with fail
  refine (H2.out _).mono ?_
  rintro e w2 ⟨rfl, hb2⟩
  have HB2 := Lib.hid (HB1.out.trans (hb2.mono HB1.out.size))
  clear hb2
  go_wp2_with fail
  go_ret
  exact ⟨by rw [← HS.out]; rfl, HB2.out⟩
set_option maxRecDepth 100000 in
theorem may9 (w : World) : Calls Tryz.prog 50 #[.int .i64 9] w fun e w' => e = .returned (.bool true) ∧ w = w' := by
  go_enter Tryz.func50, Tryz.ntmps50
  go_wp2
  go_ret
  first | exact ⟨rfl, rfl⟩ | rfl | trivial
set_option maxRecDepth 100000 in
theorem halves9 (l : List UInt8) (hn : l.length = 9) (hd : allD l = true) (w : World) :
    Calls Tryz.prog 30 #[.string (str l)] w fun e w' => e = .returned (.tuple #[.int .i64 (numD (l.take 4) : Int), .int .i64 (numD (l.drop 4) : Int), .int .i64 0]) ∧ w = w' := by
  have hs1 : ∀ w, (Instr.slice 9 (.string (str l)) none (some (.int .i64 4)) none).run Tryz.prog w = .ok (.string (str (l.take 4))) w := str_head l 9 4 hn (by omega)
  have hs2 : ∀ w, (Instr.slice 9 (.string (str l)) (some (.int .i64 4)) none none).run Tryz.prog w = .ok (.string (str (l.drop 4))) w := str_tail l 9 4 hn (by omega)
  have H1 := Lib.hid (fun w => value_any (l.take 4) 4 (by rw [List.length_take, hn]; rfl) (by omega) (by omega) (allD_take hd _) w)
  have H2 := Lib.hid (fun w => value_any (l.drop 4) 5 (by rw [List.length_drop, hn]) (by omega) (by omega) (allD_drop hd _) w)
  have hsz := str_sz hn
  clear hn hd
  go_enter Tryz.func30, Tryz.ntmps30
  go_wp2_with fail
  refine (may9 _).mono ?_
  rintro e w1 ⟨rfl, rfl⟩
  go_wp2_with fail
  refine (H1.out _).mono ?_
  rintro e w2 ⟨rfl, rfl⟩
  go_wp2_with fail
  refine (H2.out _).mono ?_
  rintro e w3 ⟨rfl, rfl⟩
  go_wp2_with fail
  go_ret3
  first | exact ⟨rfl, rfl⟩ | trivial
set_option maxRecDepth 100000 in
theorem joins9 (a b : Nat) (ha : a < 10 ^ 4) (hb : b < 10 ^ 5) (w : World) :
    Calls Tryz.prog 34 #[.int .i64 9, .int .i64 (a : Int), .int .i64 (b : Int)] w fun e w' => e = .returned (.string (str (textL a 4 ++ textL b 5))) ∧ Below w.heap.size w w' := by
  have H1 := Lib.hid (fun w => digits_any a 4 (by omega) (by omega) ha w)
  have H2 := Lib.hid (fun w => digits_any b 5 (by omega) (by omega) hb w)
  have HS := Lib.hid (str_app (textL a 4) (textL b 5))
  clear ha hb
  go_enter Tryz.func34, Tryz.ntmps34
  go_wp2_with fail
  refine (H1.out _).mono ?_
  rintro e w1 ⟨rfl, hb1⟩
  have HB1 := Lib.hid hb1
  clear hb1
  go_wp2_with fail
  refine (H2.out _).mono ?_
  rintro e w2 ⟨rfl, hb2⟩
  have HB2 := Lib.hid (HB1.out.trans (hb2.mono HB1.out.size))
  clear hb2
  go_wp2_with fail
  go_ret
  exact ⟨by rw [← HS.out]; rfl, HB2.out⟩
theorem halves_any (l : List UInt8) (n : Nat) (h6 : 6 ≤ n) (h9 : n ≤ 9) (hn : l.length = n) (hd : allD l = true) (w : World) :
    Calls Tryz.prog 30 #[.string (str l)] w fun e w' => e = .returned (.tuple #[.int .i64 (numD (l.take (n / 2)) : Int), .int .i64 (numD (l.drop (n / 2)) : Int), .int .i64 0]) ∧ w = w' := by
  have : n = 6 ∨ n = 7 ∨ n = 8 ∨ n = 9 := by omega
  rcases this with rfl | rfl | rfl | rfl
  · exact halves6 l hn hd w
  · exact halves7 l hn hd w
  · exact halves8 l hn hd w
  · exact halves9 l hn hd w
theorem joins_any (n a b : Nat) (h6 : 6 ≤ n) (h9 : n ≤ 9) (ha : a < 10 ^ (n / 2)) (hb : b < 10 ^ (n - n / 2)) (w : World) :
    Calls Tryz.prog 34 #[.int .i64 (n : Int), .int .i64 (a : Int), .int .i64 (b : Int)] w fun e w' => e = .returned (.string (str (textL a (n / 2) ++ textL b (n - n / 2)))) ∧ Below w.heap.size w w' := by
  have : n = 6 ∨ n = 7 ∨ n = 8 ∨ n = 9 := by omega
  rcases this with rfl | rfl | rfl | rfl
  · exact joins6 a b ha hb w
  · exact joins7 a b ha hb w
  · exact joins8 a b ha hb w
  · exact joins9 a b ha hb w
end Go.Proofs.YtkgnnlglabihkaaGreatDoor.Top

/- FF1: Encrypt, Decrypt. Contracts. -/
namespace Go.Proofs.YtkgnnlglabihkaaGreatDoor.Top
open Go Go.ChangeShapes Go.WideShapes Go.ChangeAt Go.RowKit Go.Proofs.YtkgnnlglabihkaaGreatDoor.Aes Go.Proofs.YtkgnnlglabihkaaGreatDoor.Str Go.Proofs.YtkgnnlglabihkaaGreatDoor.Box
set_option linter.unusedVariables false
set_option linter.unusedSimpArgs false
def encR (key tw : List UInt8) (n a b : Nat) : Nat → Nat × Nat
  | 0 => (a, b)
  | k + 1 => ((encR key tw n a b k).2, addM (10 ^ halfN n k) (encR key tw n a b k).1 (maskN key tw n k (encR key tw n a b k).2))
/-- from the end of round k back -/
def decR (key tw : List UInt8) (n : Nat) : Nat → Nat → Nat → Nat × Nat
  | 0, a, b => (a, b)
  | k + 1, a, b => decR key tw n k (subM (10 ^ halfN n k) b (maskN key tw n k a)) a
theorem halfN_two (n k : Nat) : halfN n (k + 2) = halfN n k := by unfold halfN; omega
theorem encR_lt (key tw : List UInt8) (n a b : Nat) (ha : a < 10 ^ (n / 2)) (hb : b < 10 ^ (n - n / 2)) : ∀ k, (encR key tw n a b k).1 < 10 ^ halfN n k ∧ (encR key tw n a b k).2 < 10 ^ halfN n (k + 1)
  | 0 => ⟨by simpa [encR, halfN] using ha, by
      have : halfN n 1 = n - n / 2 := by unfold halfN; omega
      rw [Nat.zero_add, this]; exact hb⟩
  | k + 1 => by
    obtain ⟨h1, h2⟩ := encR_lt key tw n a b ha hb k
    refine ⟨h2, ?_⟩
    rw [show k + 1 + 1 = k + 2 from rfl, halfN_two]
    exact addM_lt h1 (maskN_lt key tw)
theorem decR_encR (key tw : List UInt8) (n a b : Nat) (ha : a < 10 ^ (n / 2)) (hb : b < 10 ^ (n - n / 2)) : ∀ k, decR key tw n k (encR key tw n a b k).1 (encR key tw n a b k).2 = (a, b)
  | 0 => rfl
  | k + 1 => by
    show decR key tw n k (subM (10 ^ halfN n k) (addM (10 ^ halfN n k) (encR key tw n a b k).1 (maskN key tw n k (encR key tw n a b k).2)) (maskN key tw n k (encR key tw n a b k).2)) (encR key tw n a b k).2 = (a, b)
    rw [sub_add (encR_lt key tw n a b ha hb k).1 (maskN_lt key tw)]
    exact decR_encR key tw n a b ha hb k
theorem halfN_le {n : Nat} (h6 : 6 ≤ n) (h9 : n ≤ 9) (k : Nat) : 1 ≤ halfN n k ∧ 10 ^ halfN n k ≤ 100000 := by
  obtain ⟨h1, h2⟩ := halfN_pos (n := n) (r := k) (by omega) h9
  exact ⟨h1, by have := Nat.pow_le_pow_right (n := 10) (by omega) h2; omega⟩
def textP (n : Nat) (p : Nat × Nat) : List UInt8 := textL p.1 (n / 2) ++ textL p.2 (n - n / 2)
def encL (key tw l : List UInt8) : List UInt8 := textP l.length (encR key tw l.length (numD (l.take (l.length / 2))) (numD (l.drop (l.length / 2))) 10)
def decL (key tw l : List UInt8) : List UInt8 := textP l.length (decR key tw l.length 10 (numD (l.take (l.length / 2))) (numD (l.drop (l.length / 2))))
theorem COut.comp {w w' w'' : World} {base gc g : Nat} {B B' : Nat → Prop} {key tw : List UInt8} (hF : Frame (Off w B) w w') (hB : ∀ k, B' k → B k ∨ w.heap.size ≤ k) (h2 : COut w' w'' base B' gc g key tw) : COut w w'' base B gc g key tw := by
  obtain ⟨B2, h1, h3, h4⟩ := h2
  refine ⟨B2, h1, hF.trans h3 (fun k hk => ⟨Nat.lt_of_lt_of_le hk.1 hF.size, fun hb => (hB k hb).elim hk.2 (fun e => by have := hk.1; omega)⟩), fun k hk => ?_⟩
  rcases h4 k hk with h | h
  · exact hB k h
  · exact .inr (Nat.le_trans hF.size h)
theorem COut.size {w w' : World} {base gc g : Nat} {B : Nat → Prop} {key tw : List UInt8} (h : COut w w' base B gc g key tw) : w.heap.size ≤ w'.heap.size := by
  obtain ⟨B2, h1, h3, h4⟩ := h
  exact h3.size
set_option maxRecDepth 100000 in
set_option maxHeartbeats 2000000 in
theorem encs_any (base : Nat) (B : Nat → Prop) (gc g : Nat) (key tw l : List UInt8) (n : Nat) (h6 : 6 ≤ n) (h9 : n ≤ 9) (hn : l.length = n) (hd : allD l = true) (w : World) (h : Ciph w base B gc g key tw) (hbase : base ≤ w.heap.size) :
    Calls Tryz.prog 13 #[.pointer (some ⟨gc, 0, none⟩), .string (str l)] w fun e w' => e = .returned (.tuple #[.string (str (encL key tw l)), .int .i64 0]) ∧ COut w w' base B gc g key tw := by
  have hE : encL key tw l = textP n (encR key tw n (numD (l.take (n / 2))) (numD (l.drop (n / 2))) 10) := by unfold encL; rw [hn]
  have ha0 : numD (l.take (n / 2)) < 10 ^ (n / 2) := by have := numD_all (allD_take hd (n / 2)); rwa [List.length_take, hn, show min (n / 2) n = n / 2 by omega] at this
  have hb0 : numD (l.drop (n / 2)) < 10 ^ (n - n / 2) := by have := numD_all (allD_drop hd (n / 2)); rwa [List.length_drop, hn] at this
  have HH := Lib.hid (fun w => halves_any l n h6 h9 hn hd w)
  have hsz := str_sz hn
  have HE := Lib.hid hE
  generalize numD (l.take (n / 2)) = a0 at *
  generalize numD (l.drop (n / 2)) = b0 at *
  have HLT := Lib.hid (encR_lt key tw n a0 b0 ha0 hb0)
  have HO0 : Hid (COut w w base B gc g key tw) := Lib.hid ⟨B, h, Frame.refl _ _, fun k hk => .inl hk⟩
  have HBS := Lib.hid hbase
  clear hn hd h ha0 hb0 hE hbase
  go_enter Tryz.func13, Tryz.ntmps13
  go_wp2_with fail
  refine (HH.out _).mono ?_
  rintro e w1 ⟨rfl, rfl⟩
  go_wp2_with fail
  go_loopw [6, 7, 22] (fun av bv iv wr => ∃ k x y : Nat, k ≤ 10 ∧ iv = .int .i64 (k : Int) ∧ av = .int .i64 (x : Int) ∧ bv = .int .i64 (y : Int) ∧ Hid (encR key tw n a0 b0 k = (x, y)) ∧ COut w wr base B gc g key tw) (fun _ _ iv _ => 10 - (intOf iv).toNat)
  case atStart => exact ⟨0, a0, b0, by omega, rfl, rfl, rfl, Lib.hid rfl, HO0.out⟩
  case round =>
    obtain ⟨k, x, y, hk, rfl, rfl, rfl, HXY, ho⟩ := hrel
    clear HO0
    have hlt := HLT.out k
    rw [HXY.out] at hlt
    have hzr := ho.size
    by_cases hlt10 : k < 10
    · obtain ⟨B1, hc1, hf1, hb1⟩ := ho
      have HF1 := Lib.hid hf1
      have HB1 := Lib.hid hb1
      have HC1 := Lib.hid hc1
      have hl := halfN_le h6 h9 k
      have hl1 := halfN_le h6 h9 (k + 1)
      have hp := halfN_pos (n := n) (r := k) (by omega) h9
      have HX := Lib.hid hlt.1
      have HY := Lib.hid hlt.2
      have HLE := Lib.hid hp
      have hy : y < 1000000 := by have := hlt.2; omega
      have HM := Lib.hid (maskN_lt key tw (n := n) (r := k) (v := y))
      have hbw : base ≤ wr.heap.size := by have := HBS.out; omega
      clear hlt hf1 hb1 hc1 hl hl1 hp
      go_wp2_with fail
      refine (mask_any base B1 gc g key tw n k y h6 h9 hlt10 hy _ HC1.out hbw).mono ?_
      rintro e w2 ⟨rfl, ho2⟩
      have HO2 := Lib.hid (COut.comp HF1.out HB1.out ho2)
      clear ho2
      go_wp2_with fail
      refine (half_any n k (by omega) (by omega) _).mono ?_
      rintro e w3 ⟨rfl, rfl⟩
      go_wp2_with fail
      refine (add_any x (maskN key tw n k y) (halfN n k) HLE.out.1 (by have := HLE.out.2; omega) HX.out HM.out _).mono ?_
      rintro e w4 ⟨rfl, hb4⟩
      have HO4 := Lib.hid (HO2.out.then hb4)
      have HXY1 : Hid (encR key tw n a0 b0 (k + 1) = (y, addM (10 ^ halfN n k) x (maskN key tw n k y))) := Lib.hid (by show ((encR key tw n a0 b0 k).2, _) = _; rw [HXY.out])
      generalize addM (10 ^ halfN n k) x (maskN key tw n k y) = z at *
      clear hb4
      go_wp2_with fail
      go_roundw
      case rel => exact ⟨k + 1, y, z, by omega, by go_num, rfl, rfl, HXY1, HO4.out⟩
      case measure => simp [intOf] <;> omega
    · obtain rfl : k = 10 := by omega
      rw [show ((10 : Nat) : Int) = 10 from rfl]
      have hx : x < 10 ^ (n / 2) := by have := hlt.1; rwa [show halfN n 10 = n / 2 by unfold halfN; omega] at this
      have hy : y < 10 ^ (n - n / 2) := by have := hlt.2; rwa [show halfN n (10 + 1) = n - n / 2 by unfold halfN; omega] at this
      have HJ := Lib.hid (fun w => joins_any n x y h6 h9 hx hy w)
      have HO := Lib.hid ho
      have hfin : encL key tw l = textL x (n / 2) ++ textL y (n - n / 2) := by rw [HE.out, HXY.out]; rfl
      have HFIN := Lib.hid hfin
      clear hlt hx hy ho hfin
      go_wp2_with fail
      refine (HJ.out _).mono ?_
      rintro e w2 ⟨rfl, hb2⟩
      have HO2 := Lib.hid (HO.out.then hb2)
      clear hb2
      go_wp2_with fail
      rw [← HFIN.out]
      go_ret2
      exact ⟨rfl, HO2.out⟩
set_option maxRecDepth 100000 in
set_option maxHeartbeats 2000000 in
theorem decs_any (base : Nat) (B : Nat → Prop) (gc g : Nat) (key tw l : List UInt8) (n : Nat) (h6 : 6 ≤ n) (h9 : n ≤ 9) (hn : l.length = n) (hd : allD l = true) (w : World) (h : Ciph w base B gc g key tw) (hbase : base ≤ w.heap.size) :
    Calls Tryz.prog 36 #[.pointer (some ⟨gc, 0, none⟩), .string (str l)] w fun e w' => e = .returned (.tuple #[.string (str (decL key tw l)), .int .i64 0]) ∧ COut w w' base B gc g key tw := by
  have hE : decL key tw l = textP n (decR key tw n 10 (numD (l.take (n / 2))) (numD (l.drop (n / 2)))) := by unfold decL; rw [hn]
  have ha0 : numD (l.take (n / 2)) < 10 ^ (n / 2) := by have := numD_all (allD_take hd (n / 2)); rwa [List.length_take, hn, show min (n / 2) n = n / 2 by omega] at this
  have hb0 : numD (l.drop (n / 2)) < 10 ^ (n - n / 2) := by have := numD_all (allD_drop hd (n / 2)); rwa [List.length_drop, hn] at this
  have HH := Lib.hid (fun w => halves_any l n h6 h9 hn hd w)
  have hsz := str_sz hn
  have HE := Lib.hid hE
  generalize numD (l.take (n / 2)) = a0 at *
  generalize numD (l.drop (n / 2)) = b0 at *
  have HA0 := Lib.hid (show a0 < 10 ^ halfN n 10 by rw [show halfN n 10 = n / 2 by unfold halfN; omega]; exact ha0)
  have HB0 := Lib.hid (show b0 < 10 ^ halfN n (10 + 1) by rw [show halfN n (10 + 1) = n - n / 2 by unfold halfN; omega]; exact hb0)
  have HO0 : Hid (COut w w base B gc g key tw) := Lib.hid ⟨B, h, Frame.refl _ _, fun k hk => .inl hk⟩
  have HBS := Lib.hid hbase
  clear hn hd h ha0 hb0 hE hbase
  go_enter Tryz.func36, Tryz.ntmps36
  go_wp2_with fail
  refine (HH.out _).mono ?_
  rintro e w1 ⟨rfl, rfl⟩
  go_wp2_with fail
  go_loopw [6, 7, 10] (fun av bv iv wr => ∃ (k x y : Nat) (i : Int), iv = .int .i64 i ∧ av = .int .i64 (x : Int) ∧ bv = .int .i64 (y : Int) ∧ Hid (k ≤ 10 ∧ i + 1 = (k : Int) ∧ decR key tw n k x y = decR key tw n 10 a0 b0 ∧ x < 10 ^ halfN n k ∧ y < 10 ^ halfN n (k + 1)) ∧ COut w wr base B gc g key tw) (fun _ _ iv _ => (intOf iv + 1).toNat)
  case atStart => exact ⟨10, a0, b0, 9, rfl, rfl, rfl, Lib.hid ⟨by omega, rfl, rfl, HA0.out, HB0.out⟩, HO0.out⟩
  case round =>
    obtain ⟨k, x, y, i, rfl, rfl, rfl, HXY, ho⟩ := hrel
    clear HO0
    have hzr := ho.size
    by_cases hk0 : k = 0
    · subst hk0
      obtain rfl : i = -1 := by have := HXY.out.2.1; omega
      have hx : x < 10 ^ (n / 2) := by have := HXY.out.2.2.2.1; rwa [show halfN n 0 = n / 2 by unfold halfN; omega] at this
      have hy : y < 10 ^ (n - n / 2) := by have := HXY.out.2.2.2.2; rwa [show halfN n (0 + 1) = n - n / 2 by unfold halfN; omega] at this
      have HJ := Lib.hid (fun w => joins_any n x y h6 h9 hx hy w)
      have HO := Lib.hid ho
      have hfin : decL key tw l = textL x (n / 2) ++ textL y (n - n / 2) := by rw [HE.out, ← HXY.out.2.2.1]; rfl
      have HFIN := Lib.hid hfin
      clear hx hy ho hfin
      go_wp2_with fail
      refine (HJ.out _).mono ?_
      rintro e w2 ⟨rfl, hb2⟩
      have HO2 := Lib.hid (HO.out.then hb2)
      clear hb2
      go_wp2_with fail
      rw [← HFIN.out]
      go_ret2
      exact ⟨rfl, HO2.out⟩
    · obtain ⟨k', rfl⟩ : ∃ k', k = k' + 1 := ⟨k - 1, by omega⟩
      obtain rfl : i = (k' : Int) := by have := HXY.out.2.1; omega
      have hlt10 : k' < 10 := by have := HXY.out.1; omega
      obtain ⟨B1, hc1, hf1, hb1⟩ := ho
      have HF1 := Lib.hid hf1
      have HB1 := Lib.hid hb1
      have HC1 := Lib.hid hc1
      have hp := halfN_pos (n := n) (r := k') (by omega) h9
      have hl1 := halfN_le h6 h9 (k' + 1)
      have HX := Lib.hid HXY.out.2.2.2.1
      have HY : Hid (y < 10 ^ halfN n k') := Lib.hid (by have := HXY.out.2.2.2.2; rwa [show k' + 1 + 1 = k' + 2 from rfl, halfN_two] at this)
      have HLE := Lib.hid hp
      have hx : x < 1000000 := by have := HX.out; omega
      have HM := Lib.hid (maskN_lt key tw (n := n) (r := k') (v := x))
      have hbw : base ≤ wr.heap.size := by have := HBS.out; omega
      clear hf1 hb1 hc1 hl1 hp hk0
      go_wp2_with fail
      refine (mask_any base B1 gc g key tw n k' x h6 h9 hlt10 hx _ HC1.out hbw).mono ?_
      rintro e w2 ⟨rfl, ho2⟩
      have HO2 := Lib.hid (COut.comp HF1.out HB1.out ho2)
      clear ho2
      go_wp2_with fail
      refine (half_any n k' (by omega) (by omega) _).mono ?_
      rintro e w3 ⟨rfl, rfl⟩
      go_wp2_with fail
      refine (sub_any y (maskN key tw n k' x) (halfN n k') HLE.out.1 (by have := HLE.out.2; omega) HY.out HM.out _).mono ?_
      rintro e w4 ⟨rfl, hb4⟩
      have HO4 := Lib.hid (HO2.out.then hb4)
      have HXY1 : Hid (k' ≤ 10 ∧ (k' : Int) - 1 + 1 = (k' : Int) ∧ decR key tw n k' (subM (10 ^ halfN n k') y (maskN key tw n k' x)) x = decR key tw n 10 a0 b0 ∧ subM (10 ^ halfN n k') y (maskN key tw n k' x) < 10 ^ halfN n k' ∧ x < 10 ^ halfN n (k' + 1)) :=
        Lib.hid ⟨by omega, by omega, HXY.out.2.2.1, subM_lt HY.out HM.out, HX.out⟩
      generalize subM (10 ^ halfN n k') y (maskN key tw n k' x) = z at *
      clear hb4
      go_wp2_with fail
      go_roundw
      case rel => exact ⟨k', z, x, (k' : Int) - 1, by go_num, rfl, rfl, HXY1, HO4.out⟩
      case measure => simp [intOf] <;> omega
end Go.Proofs.YtkgnnlglabihkaaGreatDoor.Top

/- FF1: the way back, texts and numbers. Plain. -/
namespace Go.Proofs.YtkgnnlglabihkaaGreatDoor.Top
open Go Go.Proofs.YtkgnnlglabihkaaGreatDoor.Aes Go.Proofs.YtkgnnlglabihkaaGreatDoor.Str
set_option linter.unusedVariables false
theorem textL_snoc (a w : Nat) : textL a (w + 1) = textL (a / 10) w ++ [UInt8.ofNat (48 + a % 10)] := by
  apply List.ext_getElem
  · simp [textL]
  · intro i h1 h2
    simp only [textL, List.length_map, List.length_range] at h1
    by_cases hi : i < w
    · rw [List.getElem_append_left (by simp [textL]; exact hi)]
      simp only [textL, List.getElem_map, List.getElem_range, dgL]
      rw [Nat.div_div_eq_div_mul, show w + 1 - 1 - i = (w - 1 - i) + 1 by omega, Nat.pow_succ, Nat.mul_comm]
    · obtain rfl : i = w := by omega
      rw [List.getElem_append_right (by simp [textL])]
      simp [textL, dgL]
theorem numD_textL : ∀ (w a : Nat), a < 10 ^ w → numD (textL a w) = a
  | 0, a, h => by
    have : a = 0 := by simpa using h
    subst this; rfl
  | w + 1, a, h => by
    rw [textL_snoc, numD_snoc, numD_textL w (a / 10) (by rw [Nat.pow_succ] at h; omega), UInt8.toNat_ofNat']
    omega
theorem textL_numD : ∀ (n : Nat) (l : List UInt8), l.length = n → allD l = true → textL (numD l) n = l
  | 0, l, hn, _ => by
    obtain rfl := List.eq_nil_of_length_eq_zero hn
    rfl
  | n + 1, l, hn, hd => by
    have hl : l = l.take n ++ [l.getD n 0] := by
      have h1 : n < l.length := by omega
      conv => lhs; rw [← List.take_length (l := l), hn, List.take_succ_eq_append_getElem h1]
      rw [List.getD_eq_getElem?_getD, List.getElem?_eq_getElem h1]; rfl
    have hc := (allD_iff l).1 hd n (by omega)
    rw [isDb_iff] at hc
    have ht := allD_take hd n
    have ih := textL_numD n (l.take n) (by rw [List.length_take]; omega) ht
    generalize l.getD n 0 = c at *
    generalize l.take n = t at *
    subst hl
    rw [numD_snoc, textL_snoc, show (10 * numD t + (c.toNat - 48)) / 10 = numD t by omega, show 48 + (10 * numD t + (c.toNat - 48)) % 10 = c.toNat by omega, ih, UInt8.ofNat_toNat]
theorem allD_textL (a w : Nat) : allD (textL a w) = true := by
  unfold allD
  rw [List.all_eq_true]
  intro x hx
  simp only [textL, List.mem_map, List.mem_range] at hx
  obtain ⟨j, _, rfl⟩ := hx
  rw [isDb_iff]
  unfold dgL
  rw [UInt8.toNat_ofNat']
  omega
theorem allD_append (a b : List UInt8) (ha : allD a = true) (hb : allD b = true) : allD (a ++ b) = true := by
  unfold allD at *; rw [List.all_append, ha, hb]; rfl
theorem textP_len (n : Nat) (p : Nat × Nat) : (textP n p).length = n := by
  unfold textP; rw [List.length_append, textL_len, textL_len]; omega
theorem encL_len (key tw l : List UInt8) : (encL key tw l).length = l.length := textP_len _ _
theorem decL_len (key tw l : List UInt8) : (decL key tw l).length = l.length := textP_len _ _
theorem textP_all (n : Nat) (p : Nat × Nat) : allD (textP n p) = true := allD_append _ _ (allD_textL _ _) (allD_textL _ _)
theorem decL_encL (key tw l : List UInt8) (hd : allD l = true) : decL key tw (encL key tw l) = l := by
  obtain ⟨n, hn⟩ : ∃ n, l.length = n := ⟨_, rfl⟩
  have ha0 : numD (l.take (n / 2)) < 10 ^ (n / 2) := by have := numD_all (allD_take hd (n / 2)); rwa [List.length_take, hn, show min (n / 2) n = n / 2 by omega] at this
  have hb0 : numD (l.drop (n / 2)) < 10 ^ (n - n / 2) := by have := numD_all (allD_drop hd (n / 2)); rwa [List.length_drop, hn] at this
  have hlt := encR_lt key tw n _ _ ha0 hb0 10
  have hdec := decR_encR key tw n _ _ ha0 hb0 10
  have h10 : halfN n 10 = n / 2 := by unfold halfN; omega
  have h11 : halfN n (10 + 1) = n - n / 2 := by unfold halfN; omega
  rw [h10, h11] at hlt
  have hE : encL key tw l = textP n (encR key tw n (numD (l.take (n / 2))) (numD (l.drop (n / 2))) 10) := by unfold encL; rw [hn]
  unfold decL
  rw [encL_len, hn, hE]
  generalize encR key tw n (numD (l.take (n / 2))) (numD (l.drop (n / 2))) 10 = p at *
  have h1 : (textP n p).take (n / 2) = textL p.1 (n / 2) := by unfold textP; exact List.take_left' (textL_len _ _)
  have h2 : (textP n p).drop (n / 2) = textL p.2 (n - n / 2) := by unfold textP; exact List.drop_left' (textL_len _ _)
  rw [h1, h2, numD_textL _ _ hlt.1, numD_textL _ _ hlt.2, hdec]
  show textL (numD (l.take (n / 2))) (n / 2) ++ textL (numD (l.drop (n / 2))) (n - n / 2) = l
  rw [textL_numD (n / 2) _ (by rw [List.length_take]; omega) (allD_take hd _), textL_numD (n - n / 2) _ (by rw [List.length_drop]; omega) (allD_drop hd _), List.take_append_drop]
end Go.Proofs.YtkgnnlglabihkaaGreatDoor.Top

/- FF1: New. Contract. -/
namespace Go.Proofs.YtkgnnlglabihkaaGreatDoor.Top
open Go Go.ChangeShapes Go.WideShapes Go.ChangeAt Go.RowKit Go.Proofs.YtkgnnlglabihkaaGreatDoor.Aes Go.Proofs.YtkgnnlglabihkaaGreatDoor.Str Go.Proofs.YtkgnnlglabihkaaGreatDoor.Box
set_option linter.unusedVariables false
set_option linter.unusedSimpArgs false
set_option maxRecDepth 100000 in
set_option maxHeartbeats 2000000 in
theorem newc_any (Ak At : Option Addr) (nk ck ct : Nat) (key tw : List UInt8) (w : World) (hk : key.length = nk) (hko : KeyOk key) (hrk : Rd w w.heap.size Ak key) (ht : tw.length = 10) (hct : 10 ≤ ct) (hrt : Rd w w.heap.size At tw) :
    Calls Tryz.prog 12 #[.slice Ak nk ck, .slice At 10 ct] w fun e w' => ∃ gc g B, e = .returned (.tuple #[.pointer (some ⟨gc, 0, none⟩), .int .i64 0]) ∧ Ciph w' w.heap.size B gc g key tw ∧ Below w.heap.size w w' := by
  have HK := Lib.hid hk
  have HO := Lib.hid hko
  have HRK := Lib.hid hrk
  have HT := Lib.hid ht
  have HRT := Lib.hid hrt
  clear hk hko hrk ht hrt
  go_enter Tryz.func12, Tryz.ntmps12
  go_wp2_with fail
  refine (Aes.new_any Ak nk ck key w w.heap.size (Nat.le_refl _) HK.out HRK.out HO.out).mono ?_
  rintro e w1 ⟨g, B, rfl, hkf, hb1⟩
  have hz1 := hb1.size
  have HKF := Lib.hid hkf
  have HB1 := Lib.hid hb1
  clear hkf hb1
  go_wp2_with fail
  refine (bclone_any At 10 ct tw w1 w1.heap.size (Nat.le_refl _) HT.out (by omega) (rd_now HRT.out HB1.out)).mono ?_
  rintro e w2 ⟨v, rfl, ho2, hb2⟩
  obtain ⟨g2, c2, rfl, hc2, hg2, hgl2⟩ := own_g ho2 HT.out (by omega)
  obtain ⟨_, _, hcm2⟩ := Sha.own_len ho2
  have hz2 := hb2.size
  have HR2 := Lib.hid (own_rd ho2)
  have HB2 := Lib.hid hb2
  clear ho2 hb2
  go_wp2_with fail
  have hlt : ∀ k, B k → w.heap.size ≤ k ∧ k < w1.heap.size := KeyIs.lt (.inl HKF.out)
  have hW : Below w2.heap.size w2 (w2.alloc (.cells #[.pointer (some ⟨g, 0, none⟩), .slice (some ⟨g2, 0, none⟩) 10 c2] 84)) := (Below.refl _ _).alloc (Nat.le_refl _) _
  have hnew := heap_alloc_new w2 (.cells #[.pointer (some ⟨g, 0, none⟩), .slice (some ⟨g2, 0, none⟩) 10 c2] 84)
  have hci : Ciph (w2.alloc (.cells #[.pointer (some ⟨g, 0, none⟩), .slice (some ⟨g2, 0, none⟩) 10 c2] 84)) w.heap.size B w2.heap.size g key tw := by
    refine ⟨((KeyIs.below_ (.inl HKF.out) HB2.out).below_ hW), ?_, by simp, fun hb => by have := (hlt _ hb).2; omega, some ⟨g2, 0, none⟩, c2, ?_, HT.out, hc2, hcm2, RdS.elim_off ((rd_now HR2.out hW).s (fun _ h => h)) (fun hb => by have := (hlt _ hb).2; omega)⟩
    · rw [cell_of_row _ _ 0 _ 84 (0, 0) hnew]; rfl
    · rw [cell_of_row _ _ 1 _ 84 (0, 0) hnew]; rfl
  have HCI := Lib.hid hci
  have HBW := Lib.hid (HB1.out.trans ((HB2.out.trans (hW.mono hz2)).mono hz1))
  clear hci hW hnew hlt
  go_wp2
  go_ret2
  exact ⟨_, _, _, rfl, HCI.out, HBW.out⟩
end Go.Proofs.YtkgnnlglabihkaaGreatDoor.Top
