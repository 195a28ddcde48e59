/- A sealer: New, take, Seal, Next. Contracts. -/
import Derived.Test.YtcbihjcnnfohmaaGreatBoxTwo
import Derived.Deep.RegionHeld
import Derived.Deep.DrawnRows
import Derived.Test.YtcbihjcnnfohmaaGreatBoxFour
namespace Go.Proofs.YtcbihjcnnfohmaaGreat.Box
open Go Go.ChangeShapes Go.WideShapes Go.ChangeAt Go.RowKit Go.Proofs.YtcbihjcnnfohmaaGreat.Aes Go.Proofs.YtcbihjcnnfohmaaGreat.Str Go.Proofs.YtcbihjcnnfohmaaGreat.Mac
set_option linter.unusedVariables false
set_option linter.unusedSimpArgs false
/-- a sealer in block g -/
structure Sea (w : World) (base g : Nat) (enc tag : List UInt8) (nx : Nat) (A1 : Option Addr) (c1 : Nat) (A2 : Option Addr) (c2 : Nat) : Prop where
  obj : RowV w 64 g [.slice A1 enc.length c1, .slice A2 tag.length c2, .int .i64 (nx : Int)]
  e : Rd w w.heap.size A1 enc
  t : Rd w w.heap.size A2 tag
  ae : ∀ a, A1 = some a → base ≤ a.block ∧ a.block < g
  at_ : ∀ a, A2 = some a → base ≤ a.block ∧ a.block < g
  lo : base ≤ g
def SeaE (w : World) (base g : Nat) (enc tag : List UInt8) (nx : Nat) : Prop := ∃ A1 c1 A2 c2, Sea w base g enc tag nx A1 c1 A2 c2
theorem rd_far {w : World} {B : Nat} {A : Option Addr} {l : List UInt8} (h : Rd w B A l) {p : Addr} (u : Value) (hp : ∀ a, A = some a → a.block ≠ p.block) : Rd (w.setCell p u) B A l := fun h0 => by
  obtain ⟨ad, e, hb, hc⟩ := h h0
  refine ⟨ad, e, hb, fun j hj => ?_⟩
  rw [← hc j hj]
  exact World.cell?_of_block (by rw [add_block]; exact heap_setCell_other w p ad.block u (hp ad e))
section
variable {w w' : World} {base g nx c1 c2 : Nat} {enc tag : List UInt8} {A1 A2 : Option Addr}
theorem Sea.below_ (h : Sea w base g enc tag nx A1 c1 A2 c2) (hb : Below w.heap.size w w') : Sea w' base g enc tag nx A1 c1 A2 c2 :=
  ⟨h.obj.keep (hb.block g h.obj.lt), rd_now h.e hb, rd_now h.t hb, h.ae, h.at_, h.lo⟩
theorem rd_frame {S : Nat → Prop} {B : Nat} {A : Option Addr} {l : List UInt8} (h : Rd w B A l) (hf : Frame S w w') (hB : B ≤ w'.heap.size) (hS : ∀ a, A = some a → S a.block) : Rd w' w'.heap.size A l := fun h0 => by
  obtain ⟨ad, e, hb, hc⟩ := h h0
  refine ⟨ad, e, Nat.lt_of_lt_of_le hb hB, fun j hj => ?_⟩
  rw [← hc j hj]
  exact World.cell?_of_block (by rw [add_block]; exact hf.block _ (hS ad e))
theorem Sea.frame {S : Nat → Prop} (h : Sea w base g enc tag nx A1 c1 A2 c2) (hf : Frame S w w') (hS : ∀ k, base ≤ k → k ≤ g → S k) : Sea w' base g enc tag nx A1 c1 A2 c2 :=
  ⟨h.obj.keep (hf.block g (hS g h.lo (Nat.le_refl _))), rd_frame h.e hf hf.size (fun a e => hS _ (h.ae a e).1 (Nat.le_of_lt (h.ae a e).2)), rd_frame h.t hf hf.size (fun a e => hS _ (h.at_ a e).1 (Nat.le_of_lt (h.at_ a e).2)), h.ae, h.at_, h.lo⟩
theorem SeaE.frame {S : Nat → Prop} (h : SeaE w base g enc tag nx) (hf : Frame S w w') (hS : ∀ k, base ≤ k → k ≤ g → S k) : SeaE w' base g enc tag nx := by
  obtain ⟨A1, c1, A2, c2, h⟩ := h
  exact ⟨A1, c1, A2, c2, h.frame hf hS⟩
theorem SeaE.lt (h : SeaE w base g enc tag nx) : base ≤ g ∧ g < w.heap.size := by
  obtain ⟨A1, c1, A2, c2, h⟩ := h
  exact ⟨h.lo, h.obj.lt⟩
theorem SeaE.below_ (h : SeaE w base g enc tag nx) (hb : Below w.heap.size w w') : SeaE w' base g enc tag nx := by
  obtain ⟨A1, c1, A2, c2, h⟩ := h
  exact ⟨A1, c1, A2, c2, h.below_ hb⟩
theorem Sea.turn (h : Sea w base g enc tag nx A1 c1 A2 c2) (n' : Nat) : Sea (w.setCell ⟨g, 2, none⟩ (.int .i64 (n' : Int))) base g enc tag n' A1 c1 A2 c2 :=
  ⟨h.obj.set 2 _, by rw [World.size_setCell]; exact rd_far h.e _ (fun a e => Nat.ne_of_lt (h.ae a e).2), by rw [World.size_setCell]; exact rd_far h.t _ (fun a e => Nat.ne_of_lt (h.at_ a e).2), h.ae, h.at_, h.lo⟩
end
theorem a64_store (b off : Nat) (y : Int) (u : Value) (w : World) (hc : w.cell? ⟨b, off, none⟩ = some u) (hz : w.frozen? ⟨b, off, none⟩ = false) :
    Calls Tryz.prog 33 #[.pointer (some ⟨b, off, none⟩), .int .i64 y] w fun e w' => e = .returned (.tuple #[]) ∧ w' = w.setCell ⟨b, off, none⟩ (.int .i64 y) := by
  have hst := run_call_store (P := Tryz.prog) Tryz.func45 (by kernel_rfl) (by kernel_rfl) (by kernel_rfl) (by kernel_rfl) (k := .i64) (y := y) hc hz
  go_enter Tryz.func33, Tryz.ntmps33
  go_wp2
  go_end0
  exact ⟨rfl, rfl⟩
theorem a64_load (b off : Nat) (x : Int) (w : World) (hc : w.cell? ⟨b, off, none⟩ = some (.int .i64 x)) :
    Calls Tryz.prog 35 #[.pointer (some ⟨b, off, none⟩)] w fun e w' => e = .returned (.int .i64 x) ∧ w = w' := by
  have hl := run_call_load (P := Tryz.prog) Tryz.func47 (by kernel_rfl) (by kernel_rfl) (by kernel_rfl) .i64 (by kernel_rfl) hc
  go_enter Tryz.func35, Tryz.ntmps35
  go_wp2
  go_ret
  exact ⟨rfl, rfl⟩
theorem a64_cas (b off : Nat) (x y : Int) (w : World) (hc : w.cell? ⟨b, off, none⟩ = some (.int .i64 x)) (hz : w.frozen? ⟨b, off, none⟩ = false) :
    Calls Tryz.prog 46 #[.pointer (some ⟨b, off, none⟩), .int .i64 x, .int .i64 y] w fun e w' => e = .returned (.bool true) ∧ w' = w.setCell ⟨b, off, none⟩ (.int .i64 y) := by
  have hcas := run_call_cas_hit (P := Tryz.prog) Tryz.func61 (by kernel_rfl) (by kernel_rfl) (by kernel_rfl) .i64 (by kernel_rfl) (y := y) hc hz
  go_enter Tryz.func46, Tryz.ntmps46
  go_wp2
  go_ret
  exact ⟨rfl, rfl⟩
set_option maxRecDepth 100000 in
set_option maxHeartbeats 1000000 in
theorem snew_yes (A1 : Option Addr) (n1 c1 : Nat) (l1 : List UInt8) (A2 : Option Addr) (n2 c2 : Nat) (l2 : List UInt8) (nx : Nat) (w : World) (h1 : l1.length = n1) (hm1 : n1 ≤ 140737488355328) (hr1 : Rd w w.heap.size A1 l1) (hk : KeyOk l1) (h2 : l2.length = n2) (hm2 : n2 ≤ 140737488355328) (hr2 : Rd w w.heap.size A2 l2) (hnx : nx < 9223372036854775808) :
    Calls Tryz.prog 17 #[.slice A1 n1 c1, .slice A2 n2 c2, .int .i64 (nx : Int)] w fun e w' => ∃ g, e = .returned (.tuple #[.pointer (some ⟨g, 0, none⟩), .int .i64 0]) ∧ SeaE w' w.heap.size g l1 l2 nx ∧ Below w.heap.size w w' := by
  have H1 := Lib.hid h1
  have HM1 := Lib.hid hm1
  have HR1 := Lib.hid hr1
  have HK := Lib.hid hk
  have H2 := Lib.hid h2
  have HM2 := Lib.hid hm2
  have HR2 := Lib.hid hr2
  have HNX := Lib.hid hnx
  have d0 : ¬ (nx : Int) < 0 := by omega
  clear h1 hm1 hr1 hk h2 hm2 hr2 hnx
  go_enter Tryz.func17, Tryz.ntmps17
  go_wp2_with fail
  refine (key_yes A1 n1 c1 l1 w w.heap.size (Nat.le_refl _) H1.out HR1.out HK.out).mono ?_
  rintro e w1 ⟨rfl, hb1⟩
  have HB1 := Lib.hid hb1
  have hz1 := hb1.size
  clear hb1
  go_wp2_with fail
  refine (bclone_any A1 n1 c1 l1 w1 w.heap.size hz1 H1.out HM1.out (HR1.out.below HB1.out)).mono ?_
  rintro e w2 ⟨v2, rfl, hO2, hb2⟩
  obtain ⟨A3, c3, hv3, hr3, _⟩ := hO2.form
  subst hv3
  have hz2 := hb2.size
  have HB2 := Lib.hid (HB1.out.trans (hb2.mono hz1))
  have HO2 := Lib.hid hO2
  have HR3 := Lib.hid hr3
  clear hO2 hb2 hr3
  go_wp2_with fail
  refine (bclone_any A2 n2 c2 l2 w2 w.heap.size (by omega) H2.out HM2.out (HR2.out.below HB2.out)).mono ?_
  rintro e w3 ⟨v3, rfl, hO3, hb3⟩
  obtain ⟨A4, c4, hv4, hr4, _⟩ := hO3.form
  subst hv4
  have hz3 := hb3.size
  have HB3 := Lib.hid (HB2.out.trans (hb3.mono (by omega)))
  have HO3 := Lib.hid hO3
  have HR4 := Lib.hid hr4
  have HR3' := Lib.hid (rd_now HR3.out hb3)
  clear hO3 hb3 hr4 HR3
  go_wp2_with fail
  have hro : RowV (w3.alloc (.cells #[.slice A3 l1.length c3, .slice A4 l2.length c4, .int .i64 0] 64)) 64 w3.heap.size [.slice A3 l1.length c3, .slice A4 l2.length c4, .int .i64 0] := heap_alloc_new w3 _
  have hb4 := HB3.out.alloc (by omega) (.cells #[.slice A3 l1.length c3, .slice A4 l2.length c4, .int .i64 0] 64)
  have hba : Below w3.heap.size w3 (w3.alloc (.cells #[.slice A3 l1.length c3, .slice A4 l2.length c4, .int .i64 0] 64)) := (Below.refl _ _).alloc (Nat.le_refl _) _
  have hsea : Sea (w3.alloc (.cells #[.slice A3 l1.length c3, .slice A4 l2.length c4, .int .i64 0] 64)) w.heap.size w3.heap.size l1 l2 0 A3 c3 A4 c4 := ⟨hro, rd_now HR3'.out hba, rd_now HR4.out hba, fun a e => by subst e; have := HO2.out.lt a.block rfl; omega, fun a e => by subst e; have := HO3.out.lt a.block rfl; omega, by omega⟩
  refine (a64_store w3.heap.size 2 (nx : Int) _ _ (hro.cell (i := 2) rfl) (hro.frozen 2)).mono ?_
  rintro e w4 ⟨rfl, rfl⟩
  have HSE := Lib.hid (hsea.turn nx)
  have HB4 := Lib.hid (hb4.setCell (p := ⟨w3.heap.size, 2, none⟩) (by show w.heap.size ≤ w3.heap.size; omega) (.int .i64 (nx : Int)))
  clear hro hb4 hba hsea
  generalize (w3.alloc (.cells #[.slice A3 l1.length c3, .slice A4 l2.length c4, .int .i64 0] 64)).setCell ⟨w3.heap.size, 2, none⟩ (.int .i64 (nx : Int)) = W4 at *
  go_wp2_with fail
  go_ret2
  exact ⟨_, rfl, ⟨_, _, _, _, HSE.out⟩, HB4.out⟩
set_option maxRecDepth 100000 in
set_option maxHeartbeats 1000000 in
theorem snew_no (A1 : Option Addr) (n1 c1 : Nat) (l1 : List UInt8) (A2 : Option Addr) (n2 c2 : Nat) (nx : Int) (w : World) (h1 : l1.length = n1) (hr1 : Rd w w.heap.size A1 l1) (h : ¬ KeyOk l1 ∨ nx < 0) :
    Calls Tryz.prog 17 #[.slice A1 n1 c1, .slice A2 n2 c2, .int .i64 nx] w fun e w' => e = .returned (.tuple #[.pointer none, .int .i64 1]) ∧ Below w.heap.size w w' := by
  have H1 := Lib.hid h1
  have HR1 := Lib.hid hr1
  clear h1 hr1
  by_cases hk : KeyOk l1
  · have hn : nx < 0 := h.resolve_left (fun h => h hk)
    have HK := Lib.hid hk
    clear hk h
    go_enter Tryz.func17, Tryz.ntmps17
    go_wp2_with fail
    refine (key_yes A1 n1 c1 l1 w w.heap.size (Nat.le_refl _) H1.out HR1.out HK.out).mono ?_
    rintro e w1 ⟨rfl, hb1⟩
    have HB1 := Lib.hid hb1
    clear hb1
    go_wp2_with fail
    go_ret2
    exact ⟨rfl, HB1.out⟩
  · have HK := Lib.hid hk
    clear hk h
    go_enter Tryz.func17, Tryz.ntmps17
    go_wp2_with fail
    refine (key_no A1 n1 c1 l1 w H1.out HK.out).mono ?_
    rintro e w1 ⟨rfl, rfl⟩
    go_wp2_with fail
    go_ret2
    exact ⟨rfl, Below.refl _ _⟩
set_option maxRecDepth 100000 in
set_option maxHeartbeats 1000000 in
theorem take_yes (g nx : Nat) (v1 v2 : Value) (w : World) (hr : RowV w 64 g [v1, v2, .int .i64 (nx : Int)]) (hnx : nx < 9223372036854775807) :
    Calls Tryz.prog 34 #[.pointer (some ⟨g, 0, none⟩)] w fun e w' => e = .returned (.tuple #[.int .i64 (nx : Int), .bool true]) ∧ w' = w.setCell ⟨g, 2, none⟩ (.int .i64 ((nx + 1 : Nat) : Int)) := by
  have c2 := hr.cell (i := 2) rfl
  have f2 := hr.frozen 2
  have hd : ((nx : Int) == 9223372036854775807) = false := by simp; omega
  have hp1 : (nx : Int) + 1 ≤ 9223372036854775807 := by omega
  have hs : ((nx + 1 : Nat) : Int) = (nx : Int) + 1 := by omega
  have hwr : IntKind.i64.wrap ((nx : Int) + 1) = (nx : Int) + 1 := i64_wraps _ (by omega) (by omega)
  rw [hs]
  clear hr hs
  go_enter Tryz.func34, Tryz.ntmps34
  go_wp2_with fail
  refine wp_loop_rounds 1 ?_
  rw [rounds_succ]
  go_wp2_with fail
  refine (a64_load g 2 (nx : Int) w c2).mono ?_
  rintro e w1 ⟨rfl, rfl⟩
  go_wp2_with fail
  refine (a64_cas g 2 (nx : Int) ((nx : Int) + 1) w c2 f2).mono ?_
  rintro e w1 ⟨rfl, rfl⟩
  go_wp2_with fail
  go_ret2
  exact ⟨rfl, rfl⟩
set_option maxRecDepth 100000 in
set_option maxHeartbeats 1000000 in
theorem take_no (g : Nat) (v1 v2 : Value) (w : World) (hr : RowV w 64 g [v1, v2, .int .i64 9223372036854775807]) :
    Calls Tryz.prog 34 #[.pointer (some ⟨g, 0, none⟩)] w fun e w' => e = .returned (.tuple #[.int .i64 0, .bool false]) ∧ w = w' := by
  have c2 := hr.cell (i := 2) rfl
  clear hr
  go_enter Tryz.func34, Tryz.ntmps34
  go_wp2_with fail
  refine wp_loop_rounds 1 ?_
  rw [rounds_succ]
  go_wp2_with fail
  refine (a64_load g 2 9223372036854775807 w c2).mono ?_
  rintro e w1 ⟨rfl, rfl⟩
  go_wp2_with fail
  go_ret2
  exact ⟨rfl, rfl⟩
theorem snext_any (base g nx : Nat) (enc tag : List UInt8) (w : World) (h : SeaE w base g enc tag nx) :
    Calls Tryz.prog 21 #[.pointer (some ⟨g, 0, none⟩)] w fun e w' => e = .returned (.int .i64 (nx : Int)) ∧ w = w' := by
  obtain ⟨A1, c1, A2, c2, h⟩ := h
  have x2 := h.obj.cell (i := 2) rfl
  clear h
  go_enter Tryz.func21, Tryz.ntmps21
  go_wp2_with fail
  refine (a64_load g 2 (nx : Int) w x2).mono ?_
  rintro e w1 ⟨rfl, rfl⟩
  go_wp2_with fail
  go_ret
  exact ⟨rfl, rfl⟩
end Go.Proofs.YtcbihjcnnfohmaaGreat.Box

/- A sealer seals with the next nonce. A contract. -/
namespace Go.Proofs.YtcbihjcnnfohmaaGreat.Box
open Go Go.ChangeShapes Go.WideShapes Go.ChangeAt Go.RowKit Go.Proofs.YtcbihjcnnfohmaaGreat.Aes Go.Proofs.YtcbihjcnnfohmaaGreat.Str Go.Proofs.YtcbihjcnnfohmaaGreat.Mac
set_option linter.unusedVariables false
set_option linter.unusedSimpArgs false
theorem rd_low {w : World} {B : Nat} {A : Option Addr} {l : List UInt8} (h : Rd w B A l) {p : Addr} (u : Value) (hp : B ≤ p.block) : Rd (w.setCell p u) B A l := fun h0 => by
  obtain ⟨ad, e, hb, hc⟩ := h h0
  refine ⟨ad, e, hb, fun j hj => ?_⟩
  rw [← hc j hj]
  exact World.cell?_of_block (by rw [add_block]; exact heap_setCell_other w p ad.block u (by omega))
/-- what Seal leaves -/
def Sealed (w w' : World) (base g : Nat) (enc tag : List UInt8) (nx : Nat) (about p : List UInt8) (v : Value) : Prop :=
  OwnB w' 5 w.heap.size v (sealL enc tag nx about p) ∧ SeaE w' base g enc tag (nx + 1) ∧ Frame (fun k => k < w.heap.size ∧ k ≠ g) w w'
set_option maxRecDepth 100000 in
set_option maxHeartbeats 2000000 in
theorem sseal_yes (base g nx : Nat) (enc tag : List UInt8) (Aa : Option Addr) (na ca : Nat) (about : List UInt8) (Ap : Option Addr) (np cp : Nat) (p : List UInt8) (w : World) (h : SeaE w base g enc tag nx) (hk : KeyOk enc) (ht30 : tag.length ≤ 1073741824) (hnx : nx < 9223372036854775807)
    (hal : about.length = na) (ha30 : na ≤ 1073741824) (hac : na ≤ ca) (ham : ca ≤ 9223372036854775807) (har : Rd w base Aa about) (hp : p.length = np) (hp6 : np ≤ 65536) (hrp : Rd w base Ap p) :
    Calls Tryz.prog 19 #[.pointer (some ⟨g, 0, none⟩), .slice Aa na ca, .slice Ap np cp] w fun e w' => ∃ gx, e = .returned (.tuple #[.slice (some ⟨gx, 0, none⟩) (24 + np) (24 + np), .int .i64 0]) ∧ Sealed w w' base g enc tag nx about p (.slice (some ⟨gx, 0, none⟩) (24 + np) (24 + np)) := by
  obtain ⟨A1, c1, A2, c2, hs⟩ := h
  have HTK := Lib.hid (take_yes g nx _ _ w hs.obj hnx)
  have hse := hs.turn (nx + 1)
  have hF1 : Frame (fun k => k < w.heap.size ∧ k ≠ g) w (w.setCell ⟨g, 2, none⟩ (.int .i64 ((nx + 1 : Nat) : Int))) := (Frame.refl _ _).setCell (fun hb => hb.2 rfl) _
  have hsz1 : (w.setCell ⟨g, 2, none⟩ (.int .i64 ((nx + 1 : Nat) : Int))).heap.size = w.heap.size := by simp
  have hra : Rd (w.setCell ⟨g, 2, none⟩ (.int .i64 ((nx + 1 : Nat) : Int))) (w.setCell ⟨g, 2, none⟩ (.int .i64 ((nx + 1 : Nat) : Int))).heap.size Aa about := by rw [hsz1]; exact (rd_low har _ hs.lo).more (Nat.le_trans hs.lo (Nat.le_of_lt hs.obj.lt))
  have hrq : Rd (w.setCell ⟨g, 2, none⟩ (.int .i64 ((nx + 1 : Nat) : Int))) (w.setCell ⟨g, 2, none⟩ (.int .i64 ((nx + 1 : Nat) : Int))).heap.size Ap p := by rw [hsz1]; exact (rd_low hrp _ hs.lo).more (Nat.le_trans hs.lo (Nat.le_of_lt hs.obj.lt))
  have HK := Lib.hid hk
  have HAL := Lib.hid hal
  have HA30 := Lib.hid ha30
  have HAC := Lib.hid hac
  have HAM := Lib.hid ham
  have HPL := Lib.hid hp
  have HP6 := Lib.hid hp6
  have HNX := Lib.hid (show nx < 9223372036854775808 by omega)
  obtain ⟨n1, hl1⟩ : ∃ n1, enc.length = n1 := ⟨_, rfl⟩
  obtain ⟨n2, hl2⟩ : ∃ n2, tag.length = n2 := ⟨_, rfl⟩
  have d1 : decide ((65536 : Int) < (np : Int)) = false := decide_eq_false (by omega)
  rw [hl2] at ht30
  have HT30 := Lib.hid ht30
  clear hs hk hal ha30 hac ham har hp hp6 hrp ht30 hnx
  go_enter Tryz.func19, Tryz.ntmps19
  go_wp2_with fail
  refine HTK.out.mono ?_
  rintro e w1 ⟨rfl, rfl⟩
  generalize w.setCell ⟨g, 2, none⟩ (.int .i64 ((nx + 1 : Nat) : Int)) = W at *
  have HSE := Lib.hid hse
  have HF1 := Lib.hid hF1
  have HRA := Lib.hid hra
  have HRP := Lib.hid hrq
  have HL1 := Lib.hid hl1
  have HL2 := Lib.hid hl2
  have HSZ := Lib.hid hsz1
  have x0 := hse.obj.cell (i := 0) rfl
  have x1 := hse.obj.cell (i := 1) rfl
  rw [hl1] at x0
  rw [hl2] at x1
  have hbd : Below W.heap.size W W.drew := (Below.refl _ _).drew
  clear hse hF1 hra hrq hl1 hl2 hsz1 HTK
  go_wp2_with fail
  refine wp_region_held_drew (S := fun w' => w'.cell? ⟨g, 0, none⟩ = some (.slice A1 n1 c1) ∧ w'.cell? ⟨g, 1, none⟩ = some (.slice A2 n2 c2)) (by kernel_rfl) (⟨x0, x1⟩) (fun hHeld => ?_)
  refine wpAnyH_take (i := 0) (v := ?_) rfl (by kernel_rfl) (by kernel_rfl) (by kernel_rfl) (fun _ _ _ h => h) (Or.inl ⟨by kernel_rfl, ?_⟩) (by assumption) ?_
  rotate_left
  · (intro w hSw; (try dsimp only at hSw); go_simp; first | done | with_reducible rfl)
  (try simp only [Act.put, List.setIfInBounds_toArray, List.set_cons_zero, List.set_cons_succ, List.getElem_toArray, List.getElem_cons_zero, List.getElem_cons_succ])
  refine wpAnyH_take (i := 1) (v := ?_) rfl (by kernel_rfl) (by kernel_rfl) (by kernel_rfl) (fun _ _ _ h => h) (Or.inl ⟨by kernel_rfl, ?_⟩) (by assumption) ?_
  rotate_left
  · (intro w hSw; (try dsimp only at hSw); go_simp; first | done | with_reducible rfl)
  (try simp only [Act.put, List.setIfInBounds_toArray, List.set_cons_zero, List.set_cons_succ, List.getElem_toArray, List.getElem_cons_zero, List.getElem_cons_succ])
  refine wpAnyH_take (i := 2) (v := ?_) rfl (by kernel_rfl) (by kernel_rfl) (by kernel_rfl) (fun _ _ _ h => h) (Or.inl ⟨by kernel_rfl, ?_⟩) (by assumption) ?_
  rotate_left
  · (intro w hSw; (try dsimp only at hSw); go_simp; first | done | with_reducible rfl)
  (try simp only [Act.put, List.setIfInBounds_toArray, List.set_cons_zero, List.set_cons_succ, List.getElem_toArray, List.getElem_cons_zero, List.getElem_cons_succ])
  refine wpAnyH_take (i := 3) (v := ?_) rfl (by kernel_rfl) (by kernel_rfl) (by kernel_rfl) (fun _ _ _ h => h) (Or.inl ⟨by kernel_rfl, ?_⟩) (by assumption) ?_
  rotate_left
  · (intro w hSw; (try dsimp only at hSw); go_simp; first | done | with_reducible rfl)
  (try simp only [Act.put, List.setIfInBounds_toArray, List.set_cons_zero, List.set_cons_succ, List.getElem_toArray, List.getElem_cons_zero, List.getElem_cons_succ])
  refine wpAnyH_take (i := 4) (v := ?_) rfl (by kernel_rfl) (by kernel_rfl) (by kernel_rfl) (fun _ _ _ h => h) (Or.inl ⟨by kernel_rfl, ?_⟩) (by assumption) ?_
  rotate_left
  · (intro w hSw; (try dsimp only at hSw); go_simp; first | done | with_reducible rfl)
  (try simp only [Act.put, List.setIfInBounds_toArray, List.set_cons_zero, List.set_cons_succ, List.getElem_toArray, List.getElem_cons_zero, List.getElem_cons_succ])
  refine wpAnyH_take (i := 5) (v := ?_) rfl (by kernel_rfl) (by kernel_rfl) (by kernel_rfl) (fun _ _ _ h => h) (Or.inl ⟨by kernel_rfl, ?_⟩) (by assumption) ?_
  rotate_left
  · (intro w hSw; (try dsimp only at hSw); go_simp; first | done | with_reducible rfl)
  (try simp only [Act.put, List.setIfInBounds_toArray, List.set_cons_zero, List.set_cons_succ, List.getElem_toArray, List.getElem_cons_zero, List.getElem_cons_succ])
  refine wpAnyH_take (i := 6) (v := ?_) rfl (by kernel_rfl) (by kernel_rfl) (by kernel_rfl) (fun _ _ _ h => h) (Or.inl ⟨by kernel_rfl, ?_⟩) (by assumption) ?_
  rotate_left
  · (intro w hSw; (try dsimp only at hSw); go_simp; first | done | with_reducible rfl)
  (try simp only [Act.put, List.setIfInBounds_toArray, List.set_cons_zero, List.set_cons_succ, List.getElem_toArray, List.getElem_cons_zero, List.getElem_cons_succ])
  refine wpAnyH_take (i := 7) (v := ?_) rfl (by kernel_rfl) (by kernel_rfl) (by kernel_rfl) (fun _ _ _ h => h) (Or.inl ⟨by kernel_rfl, ?_⟩) (by assumption) ?_
  rotate_left
  · (intro w hSw; (try dsimp only at hSw); go_simp; first | done | with_reducible rfl)
  (try simp only [Act.put, List.setIfInBounds_toArray, List.set_cons_zero, List.set_cons_succ, List.getElem_toArray, List.getElem_cons_zero, List.getElem_cons_succ])
  refine wpAnyH_take (i := 8) (v := ?_) rfl (by kernel_rfl) (by kernel_rfl) (by kernel_rfl) (fun _ _ _ h => h) (Or.inl ⟨by kernel_rfl, ?_⟩) (by assumption) ?_
  rotate_left
  · (intro w hSw; (try dsimp only at hSw); go_simp; first | done | with_reducible rfl)
  (try simp only [Act.put, List.setIfInBounds_toArray, List.set_cons_zero, List.set_cons_succ, List.getElem_toArray, List.getElem_cons_zero, List.getElem_cons_succ])
  refine wpAnyH_take (i := 9) (v := ?_) rfl (by kernel_rfl) (by kernel_rfl) (by kernel_rfl) (fun _ _ _ h => h) (Or.inl ⟨by kernel_rfl, ?_⟩) (by assumption) ?_
  rotate_left
  · (intro w hSw; (try dsimp only at hSw); go_simp; first | done | with_reducible rfl)
  (try simp only [Act.put, List.setIfInBounds_toArray, List.set_cons_zero, List.set_cons_succ, List.getElem_toArray, List.getElem_cons_zero, List.getElem_cons_succ])
  refine wpAnyH_take (i := 10) (v := ?_) rfl (by kernel_rfl) (by kernel_rfl) (by kernel_rfl) (fun _ _ _ h => h) (Or.inl ⟨by kernel_rfl, ?_⟩) (by assumption) ?_
  rotate_left
  · (intro w hSw; (try dsimp only at hSw); go_simp; first | done | with_reducible rfl)
  (try simp only [Act.put, List.setIfInBounds_toArray, List.set_cons_zero, List.set_cons_succ, List.getElem_toArray, List.getElem_cons_zero, List.getElem_cons_succ])
  refine wpAnyH_ready (rs := [11]) (by kernel_rfl) (by simp) ?_
  refine AllReadyH.cons rfl (fun KK hKK => ?_) AllReadyH.nil
  go_simp
  refine (seal_yes A1 n1 c1 enc A2 n2 c2 tag nx Aa na ca about Ap np cp p W.drew HL1.out (rd_now HSE.out.e hbd) HK.out HL2.out HT30.out (rd_now HSE.out.t hbd) HNX.out HAL.out HA30.out HAC.out HAM.out (rd_now HRA.out hbd) HPL.out HP6.out (rd_now HRP.out hbd)).mono ?_
  rintro e w3 ⟨gx, mx, rfl, hmx, hO3, hb3⟩
  have hbW : Below W.heap.size W w3 := hbd.trans hb3
  have hS3 := HSE.out.below_ hbW
  have z0 := hS3.obj.cell (i := 0) rfl
  have z1 := hS3.obj.cell (i := 1) rfl
  rw [HL1.out] at z0
  rw [HL2.out] at z1
  have HO3 := Lib.hid hO3
  have HS3 := Lib.hid hS3
  have HBW := Lib.hid hbW
  subst hmx
  clear hO3 hb3 hbW hS3
  go_wp2_with fail
  refine hKK.out _ _ ?_ (fun hHeld => ?_)
  · (exact ⟨z0, z1⟩)
  clear hKK KK
  (try simp only [Act.put, List.setIfInBounds_toArray, List.set_cons_zero, List.set_cons_succ, List.getElem_toArray, List.getElem_cons_zero, List.getElem_cons_succ])
  refine wpAnyH_take (i := 12) (v := ?_) rfl (by kernel_rfl) (by kernel_rfl) (by kernel_rfl) (fun _ _ _ h => h) (Or.inl ⟨by kernel_rfl, ?_⟩) (by assumption) ?_
  rotate_left
  · (intro w hSw; (try dsimp only at hSw); go_simp; first | done | with_reducible rfl)
  (try simp only [Act.put, List.setIfInBounds_toArray, List.set_cons_zero, List.set_cons_succ, List.getElem_toArray, List.getElem_cons_zero, List.getElem_cons_succ])
  refine wpAnyH_take (i := 13) (v := ?_) rfl (by kernel_rfl) (by kernel_rfl) (by kernel_rfl) (fun _ _ _ h => h) (Or.inl ⟨by kernel_rfl, ?_⟩) (by assumption) ?_
  rotate_left
  · (intro w hSw; (try dsimp only at hSw); go_simp; first | done | with_reducible rfl)
  (try simp only [Act.put, List.setIfInBounds_toArray, List.set_cons_zero, List.set_cons_succ, List.getElem_toArray, List.getElem_cons_zero, List.getElem_cons_succ])
  refine wpAnyH_take (i := 14) (v := ?_) rfl (by kernel_rfl) (by kernel_rfl) (by kernel_rfl) (fun _ _ _ h => h) (Or.inl ⟨by kernel_rfl, ?_⟩) (by assumption) ?_
  rotate_left
  · (intro w hSw; (try dsimp only at hSw); go_simp; first | done | with_reducible rfl)
  (try simp only [Act.put, List.setIfInBounds_toArray, List.set_cons_zero, List.set_cons_succ, List.getElem_toArray, List.getElem_cons_zero, List.getElem_cons_succ])
  refine wpAnyH_take (i := 15) (v := ?_) rfl (by kernel_rfl) (by kernel_rfl) (by kernel_rfl) (fun _ _ _ h => h) (Or.inl ⟨by kernel_rfl, ?_⟩) (by assumption) ?_
  rotate_left
  · (intro w hSw; (try dsimp only at hSw); go_simp; first | done | with_reducible rfl)
  (try simp only [Act.put, List.setIfInBounds_toArray, List.set_cons_zero, List.set_cons_succ, List.getElem_toArray, List.getElem_cons_zero, List.getElem_cons_succ])
  refine wpAnyH_done (by kernel_rfl) ?_ _
  go_wp2_with fail
  go_ret2
  refine ⟨_, rfl, ?_, ⟨_, _, _, _, HS3.out⟩, HF1.out.trans (Frame.of_below (S := fun k => k < w.heap.size ∧ k ≠ g) HBW.out (fun b hb => by rw [HSZ.out]; exact hb.1)) (fun _ h => h)⟩
  have := HO3.out
  rw [← HSZ.out]
  exact this
set_option maxRecDepth 100000 in
set_option maxHeartbeats 1000000 in
theorem sseal_long (base g nx : Nat) (enc tag : List UInt8) (Aa : Option Addr) (na ca : Nat) (Ap : Option Addr) (np cp : Nat) (w : World) (hp6 : 65536 < np) :
    Calls Tryz.prog 19 #[.pointer (some ⟨g, 0, none⟩), .slice Aa na ca, .slice Ap np cp] w fun e w' => e = .returned (.tuple #[.slice none 0 0, .int .i64 2]) ∧ w = w' := by
  have d1 : decide ((65536 : Int) < (np : Int)) = true := decide_eq_true (by omega)
  go_enter Tryz.func19, Tryz.ntmps19
  go_wp2_with fail
  go_ret2
  exact ⟨rfl, rfl⟩
set_option maxRecDepth 100000 in
set_option maxHeartbeats 1000000 in
theorem sseal_end (base g : Nat) (enc tag : List UInt8) (Aa : Option Addr) (na ca : Nat) (Ap : Option Addr) (np cp : Nat) (w : World) (hp6 : np ≤ 65536) (h : SeaE w base g enc tag 9223372036854775807) :
    Calls Tryz.prog 19 #[.pointer (some ⟨g, 0, none⟩), .slice Aa na ca, .slice Ap np cp] w fun e w' => e = .returned (.tuple #[.slice none 0 0, .int .i64 2]) ∧ w = w' := by
  have d1 : decide ((65536 : Int) < (np : Int)) = false := decide_eq_false (by omega)
  obtain ⟨A1, c1, A2, c2, hs⟩ := h
  have HTK := Lib.hid (take_no g _ _ w hs.obj)
  clear hs
  go_enter Tryz.func19, Tryz.ntmps19
  go_wp2_with fail
  refine HTK.out.mono ?_
  rintro e w1 ⟨rfl, rfl⟩
  go_wp2_with fail
  go_ret2
  exact ⟨rfl, rfl⟩
end Go.Proofs.YtcbihjcnnfohmaaGreat.Box

/- The document's sealer: New, Seal. Contracts. -/
namespace Go.Proofs.YtcbihjcnnfohmaaGreat.Box
open Go Go.ChangeShapes Go.WideShapes Go.ChangeAt Go.RowKit Go.Proofs.YtcbihjcnnfohmaaGreat.Aes Go.Proofs.YtcbihjcnnfohmaaGreat.Str Go.Proofs.YtcbihjcnnfohmaaGreat.Mac
set_option linter.unusedVariables false
set_option linter.unusedSimpArgs false
/-- a sealer of the document in block g -/
structure RSea (w : World) (base g : Nat) (enc tag : List UInt8) (nx : Nat) (A1 : Option Addr) (c1 : Nat) (A2 : Option Addr) (c2 : Nat) : Prop where
  obj : RowV w 45 g [.slice A1 enc.length c1, .slice A2 tag.length c2, .int .i64 (nx : Int)]
  e : Rd w w.heap.size A1 enc
  t : Rd w w.heap.size A2 tag
  ae : ∀ a, A1 = some a → base ≤ a.block ∧ a.block < g
  at_ : ∀ a, A2 = some a → base ≤ a.block ∧ a.block < g
  fe : enc.length ≤ c1
  lo : base ≤ g
def RSeaE (w : World) (base g : Nat) (enc tag : List UInt8) (nx : Nat) : Prop := ∃ A1 c1 A2 c2, RSea w base g enc tag nx A1 c1 A2 c2
section
variable {w w' : World} {base g nx c1 c2 : Nat} {enc tag : List UInt8} {A1 A2 : Option Addr}
theorem RSea.below_ (h : RSea w base g enc tag nx A1 c1 A2 c2) (hb : Below w.heap.size w w') : RSea w' base g enc tag nx A1 c1 A2 c2 :=
  ⟨h.obj.keep (hb.block g h.obj.lt), rd_now h.e hb, rd_now h.t hb, h.ae, h.at_, h.fe, h.lo⟩
theorem RSea.frame {S : Nat → Prop} (h : RSea w base g enc tag nx A1 c1 A2 c2) (hf : Frame S w w') (hS : ∀ k, base ≤ k → k ≤ g → S k) : RSea w' base g enc tag nx A1 c1 A2 c2 :=
  ⟨h.obj.keep (hf.block g (hS g h.lo (Nat.le_refl _))), rd_frame h.e hf hf.size (fun a e => hS _ (h.ae a e).1 (Nat.le_of_lt (h.ae a e).2)), rd_frame h.t hf hf.size (fun a e => hS _ (h.at_ a e).1 (Nat.le_of_lt (h.at_ a e).2)), h.ae, h.at_, h.fe, h.lo⟩
theorem RSeaE.frame {S : Nat → Prop} (h : RSeaE w base g enc tag nx) (hf : Frame S w w') (hS : ∀ k, base ≤ k → k ≤ g → S k) : RSeaE w' base g enc tag nx := by
  obtain ⟨A1, c1, A2, c2, h⟩ := h
  exact ⟨A1, c1, A2, c2, h.frame hf hS⟩
theorem RSeaE.lt (h : RSeaE w base g enc tag nx) : base ≤ g ∧ g < w.heap.size := by
  obtain ⟨A1, c1, A2, c2, h⟩ := h
  exact ⟨h.lo, h.obj.lt⟩
theorem RSeaE.below_ (h : RSeaE w base g enc tag nx) (hb : Below w.heap.size w w') : RSeaE w' base g enc tag nx := by
  obtain ⟨A1, c1, A2, c2, h⟩ := h
  exact ⟨A1, c1, A2, c2, h.below_ hb⟩
theorem RSea.turn (h : RSea w base g enc tag nx A1 c1 A2 c2) (n' : Nat) : RSea (w.setCell ⟨g, 2, none⟩ (.int .i64 (n' : Int))) base g enc tag n' A1 c1 A2 c2 :=
  ⟨h.obj.set 2 _, by rw [World.size_setCell]; exact rd_far h.e _ (fun a e => Nat.ne_of_lt (h.ae a e).2), by rw [World.size_setCell]; exact rd_far h.t _ (fun a e => Nat.ne_of_lt (h.at_ a e).2), h.ae, h.at_, h.fe, h.lo⟩
theorem RSeaE.slot (h : RSeaE w base g enc tag nx) : w.cell? ⟨g, 2, none⟩ = some (.int .i64 (nx : Int)) := by
  obtain ⟨_, _, _, _, h⟩ := h
  exact h.obj.cell (i := 2) rfl
end
set_option maxRecDepth 100000 in
set_option maxHeartbeats 2000000 in
theorem rsnew_yes (A1 : Option Addr) (n1 c1 : Nat) (l1 : List UInt8) (A2 : Option Addr) (n2 c2 : Nat) (l2 : List UInt8) (nx : Nat) (w : World) (h1 : l1.length = n1) (hf1 : n1 ≤ c1) (hm1 : n1 ≤ 1073741824) (hr1 : Rd w w.heap.size A1 l1) (hk : KeyOk l1) (h2 : l2.length = n2) (hm2 : n2 ≤ 1073741824) (hr2 : Rd w w.heap.size A2 l2) :
    Calls Tryz.prog 18 #[.slice A1 n1 c1, .slice A2 n2 c2, .int .i64 (nx : Int)] w fun e w' => ∃ g, e = .returned (.tuple #[.pointer (some ⟨g, 0, none⟩), .int .i64 0]) ∧ RSeaE w' w.heap.size g l1 l2 nx ∧ Below w.heap.size w w' := by
  obtain ⟨n4, hn4, hl4⟩ := key_lens hk
  have H1 := Lib.hid h1
  have HF1 := Lib.hid hf1
  have HR1 := Lib.hid hr1
  have H2 := Lib.hid h2
  have HR2 := Lib.hid hr2
  have HN4 := Lib.hid hn4
  have HL4 := Lib.hid (show n1 = 4 * n4 by omega)
  have d0 : decide ((nx : Int) < 0) = false := by simp
  clear h1 hf1 hr1 hk h2 hr2 hn4 hl4
  go_enter Tryz.func18, Tryz.ntmps18
  go_wp2_with fail
  refine (refnew_any A1 n1 c1 n4 l1 HN4.out HL4.out H1.out HF1.out w HR1.out).mono ?_
  rintro e w1 ⟨gk, rfl, hk1, hb1⟩
  have hz1 := hb1.size
  have HB1 := Lib.hid hb1
  have hOe := own_empty (w := w1) 5 (base := w.heap.size) hz1
  have hbe := hb1.alloc hz1 (.cells #[] 5)
  have hre := (HR1.out.below hb1).alloc hz1 (.cells #[] 5)
  have hse := hbe.size
  clear hk1 hb1
  go_wp2_with (first
    | (with_reducible refine at_slot 23 ?_
       refine wpList_append_u8 Go.Proofs.YtcbihjcnnfohmaaGreat.u8 rfl (.tmp 21) (.tmp 22) rfl w.heap.size _ [] _ n1 c1 l1 w.heap.size rfl rfl hOe hre H1.out (by simp; omega) hse ?_
       intro v2 w2 hO2 hg2 hat2
       rw [List.nil_append] at hO2
       obtain ⟨A3, k3, hv3, hr3, hk3⟩ := hO2.form
       rw [H1.out] at hv3
       subst hv3
       have hb2 := below_grown hbe hg2 hse hOe (Nat.le_refl _)
       have hz2 := hb2.size
       have HO3 := Lib.hid hO2
       have HR3 := Lib.hid hr3
       have HK3 := Lib.hid hk3
       have HB2 := Lib.hid hb2
       have hOe2 := own_empty (w := w2) 5 (base := w2.heap.size) (Nat.le_refl _)
       have hbe2 := (Below.refl w2.heap.size w2).alloc (Nat.le_refl _) (.cells #[] 5)
       have hre2 := (HR2.out.below hb2).alloc hz2 (.cells #[] 5)
       have hse2 := hbe2.size
       clear hO2 hg2 hat2 hr3 hk3 hb2)
    | (with_reducible refine at_slot 26 ?_
       refine wpList_append_u8 Go.Proofs.YtcbihjcnnfohmaaGreat.u8 rfl (.tmp 24) (.tmp 25) rfl w2.heap.size _ [] _ n2 c2 l2 w.heap.size rfl rfl hOe2 hre2 H2.out (by simp; omega) hse2 ?_
       intro v3 w3 hO4 hg4 hat4
       rw [List.nil_append] at hO4
       obtain ⟨A4, k4, hv4, hr4, _⟩ := hO4.form
       rw [H2.out] at hv4
       subst hv4
       have hb23 := below_grown hbe2 hg4 hse2 hOe2 (Nat.le_refl _)
       have hz3 := hb23.size
       have HR3' := Lib.hid (rd_now HR3.out hb23)
       have HO4 := Lib.hid hO4
       have HR4 := Lib.hid hr4
       have HB3 := Lib.hid (HB2.out.trans (hb23.mono hz2))
       clear hO4 hg4 hat4 hr4 hb23 hOe2 hbe2 hre2 hse2))
  go_ret2
  have hro : RowV (w3.alloc (.cells #[.slice A3 n1 k3, .slice A4 n2 k4, .int .i64 (nx : Int)] 45)) 45 w3.heap.size [.slice A3 n1 k3, .slice A4 n2 k4, .int .i64 (nx : Int)] := heap_alloc_new w3 _
  have hba : Below w3.heap.size w3 (w3.alloc (.cells #[.slice A3 n1 k3, .slice A4 n2 k4, .int .i64 (nx : Int)] 45)) := (Below.refl _ _).alloc (Nat.le_refl _) _
  refine ⟨w3.heap.size, rfl, ⟨A3, k3, A4, k4, ⟨by rw [H1.out, H2.out]; exact hro, rd_now HR3'.out hba, rd_now HR4.out hba, fun a e => by subst e; have := HO3.out.lt a.block rfl; omega, fun a e => by subst e; have := HO4.out.lt a.block rfl; omega, HK3.out, by omega⟩⟩, HB3.out.alloc (by omega) _⟩
set_option maxRecDepth 100000 in
set_option maxHeartbeats 1000000 in
theorem rsnew_no (A1 : Option Addr) (n1 c1 : Nat) (l1 : List UInt8) (A2 : Option Addr) (n2 c2 : Nat) (nx : Int) (w : World) (h1 : l1.length = n1) (hf1 : n1 ≤ c1) (hr1 : Rd w w.heap.size A1 l1) (h : ¬ KeyOk l1 ∨ nx < 0) :
    Calls Tryz.prog 18 #[.slice A1 n1 c1, .slice A2 n2 c2, .int .i64 nx] w fun e w' => e = .returned (.tuple #[.pointer none, .int .i64 1]) ∧ Below w.heap.size w w' := by
  have H1 := Lib.hid h1
  have HF1 := Lib.hid hf1
  have HR1 := Lib.hid hr1
  by_cases hk : KeyOk l1
  · obtain ⟨n4, hn4, hl4⟩ := key_lens hk
    have hn : nx < 0 := h.resolve_left (fun h => h hk)
    have HN4 := Lib.hid hn4
    have HL4 := Lib.hid (show n1 = 4 * n4 by omega)
    clear hk h h1 hf1 hr1 hn4 hl4
    go_enter Tryz.func18, Tryz.ntmps18
    go_wp2_with fail
    refine (refnew_any A1 n1 c1 n4 l1 HN4.out HL4.out H1.out HF1.out w HR1.out).mono ?_
    rintro e w1 ⟨gk, rfl, hk1, hb1⟩
    have HB1 := Lib.hid hb1
    clear hk1 hb1
    go_wp2_with fail
    go_ret2
    exact ⟨rfl, HB1.out⟩
  · have HNE := Lib.hid (show n1 ≠ 16 ∧ n1 ≠ 32 from ⟨fun e => hk (.inl (h1.trans e)), fun e => hk (.inr (h1.trans e))⟩)
    clear hk h h1 hf1 hr1
    go_enter Tryz.func18, Tryz.ntmps18
    go_wp2_with fail
    refine (refnew_no A1 n1 c1 w HNE.out).mono ?_
    rintro e w1 ⟨rfl, rfl⟩
    go_wp2_with fail
    go_ret2
    exact ⟨rfl, Below.refl _ _⟩
/-- what the document's Seal leaves -/
def RSealed (w w' : World) (base g : Nat) (enc tag : List UInt8) (nx : Nat) (about p : List UInt8) (A : Option Addr) (c : Nat) : Prop :=
  Rd w' w'.heap.size A (sealL enc tag nx about p) ∧ c = c ∧ RSeaE w' base g enc tag (nx + 1) ∧ Frame (fun k => k < w.heap.size ∧ k ≠ g) w w'
set_option maxRecDepth 100000 in
set_option maxHeartbeats 2000000 in
theorem rsseal_yes (base g nx : Nat) (enc tag : List UInt8) (Aa : Option Addr) (na ca : Nat) (about : List UInt8) (Ap : Option Addr) (np cp : Nat) (p : List UInt8) (w : World) (h : RSeaE w base g enc tag nx) (hk : KeyOk enc) (ht30 : tag.length ≤ 1073741824) (hnx : nx < 9223372036854775807)
    (hal : about.length = na) (ha30 : na ≤ 1073741824) (har : Rd w base Aa about) (hp : p.length = np) (hp6 : np ≤ 65536) (hrp : Rd w base Ap p) :
    Calls Tryz.prog 20 #[.pointer (some ⟨g, 0, none⟩), .slice Aa na ca, .slice Ap np cp] w fun e w' => ∃ A c, e = .returned (.tuple #[.slice A (24 + np) c, .int .i64 0]) ∧ RSealed w w' base g enc tag nx about p A c := by
  obtain ⟨A1, c1, A2, c2, hs⟩ := h
  have b2 := hs.obj.cell (i := 2) rfl
  have f2 := hs.obj.frozen 2
  have hse := hs.turn (nx + 1)
  have hni : ((nx + 1 : Nat) : Int) = (nx : Int) + 1 := by omega
  rw [hni] at hse
  have hF1 : Frame (fun k => k < w.heap.size ∧ k ≠ g) w (w.setCell ⟨g, 2, none⟩ (.int .i64 ((nx : Int) + 1))) := (Frame.refl _ _).setCell (fun hb => hb.2 rfl) _
  have hsz1 : (w.setCell ⟨g, 2, none⟩ (.int .i64 ((nx : Int) + 1))).heap.size = w.heap.size := by simp
  have hra : Rd (w.setCell ⟨g, 2, none⟩ (.int .i64 ((nx : Int) + 1))) (w.setCell ⟨g, 2, none⟩ (.int .i64 ((nx : Int) + 1))).heap.size Aa about := by rw [hsz1]; exact (rd_low har _ hs.lo).more (Nat.le_trans hs.lo (Nat.le_of_lt hs.obj.lt))
  have hrq : Rd (w.setCell ⟨g, 2, none⟩ (.int .i64 ((nx : Int) + 1))) (w.setCell ⟨g, 2, none⟩ (.int .i64 ((nx : Int) + 1))).heap.size Ap p := by rw [hsz1]; exact (rd_low hrp _ hs.lo).more (Nat.le_trans hs.lo (Nat.le_of_lt hs.obj.lt))
  have HK := Lib.hid hk
  have HAL := Lib.hid hal
  have HA30 := Lib.hid ha30
  have HPL := Lib.hid hp
  have HP6 := Lib.hid hp6
  have HFE := Lib.hid hs.fe
  have HNI := Lib.hid hni
  obtain ⟨n1, hl1⟩ : ∃ n1, enc.length = n1 := ⟨_, rfl⟩
  obtain ⟨n2, hl2⟩ : ∃ n2, tag.length = n2 := ⟨_, rfl⟩
  have d1 : decide ((65536 : Int) < (np : Int)) = false := decide_eq_false (by omega)
  have d2 : ((nx : Int) == 9223372036854775807) = false := by simp; omega
  have hw1 : IntKind.i64.wrap ((nx : Int) + 1) = (nx : Int) + 1 := i64_wraps _ (by omega) (by omega)
  have hp1 : (nx : Int) + 1 ≤ 9223372036854775807 := by omega
  have hsb : IntKind.i64.wrap ((nx : Int) + 1 - 1) = (nx : Int) := by rw [show (nx : Int) + 1 - 1 = (nx : Int) by omega]; exact i64_wraps _ (by omega) (by omega)
  have hsc : IntKind.i64.wrap (nx : Int) = (nx : Int) := i64_wraps _ (by omega) (by omega)
  rw [hl2] at ht30
  have HT30 := Lib.hid ht30
  have HSB := Lib.hid (And.intro hsb hsc)
  rw [hl1] at HFE
  clear hs hk hal ha30 har hp hp6 hrp ht30 hnx hni hsb hsc
  go_enter Tryz.func20, Tryz.ntmps20
  go_wp2_with fail
  generalize w.setCell ⟨g, 2, none⟩ (.int .i64 ((nx : Int) + 1)) = W at *
  have HSE := Lib.hid hse
  have HF1 := Lib.hid hF1
  have HRA := Lib.hid hra
  have HRP := Lib.hid hrq
  have HL1 := Lib.hid hl1
  have HL2 := Lib.hid hl2
  have HSZ := Lib.hid hsz1
  have x0 := hse.obj.cell (i := 0) rfl
  have x1 := hse.obj.cell (i := 1) rfl
  have x2 := hse.obj.cell (i := 2) rfl
  rw [hl1] at x0
  rw [hl2] at x1
  rw [HNI.out] at x2
  have hsb := HSB.out.1
  have hsc := HSB.out.2
  have hbd : Below W.heap.size W W.drew := (Below.refl _ _).drew
  clear hse hF1 hra hrq hl1 hl2 hsz1 b2 f2 d1 d2 hw1 hp1
  refine wp_region_held_drew (S := fun w' => w'.cell? ⟨g, 0, none⟩ = some (.slice A1 n1 c1) ∧ w'.cell? ⟨g, 1, none⟩ = some (.slice A2 n2 c2) ∧ w'.cell? ⟨g, 2, none⟩ = some (.int .i64 ((nx : Int) + 1))) (by kernel_rfl) (⟨x0, x1, x2⟩) (fun hHeld => ?_)
  refine wpAnyH_take (i := 0) (v := ?_) rfl (by kernel_rfl) (by kernel_rfl) (by kernel_rfl) (fun _ _ _ h => h) (Or.inl ⟨by kernel_rfl, ?_⟩) (by assumption) ?_
  rotate_left
  · (intro w hSw; (try dsimp only at hSw); go_simp; first | done | with_reducible rfl)
  (try simp only [Act.put, List.setIfInBounds_toArray, List.set_cons_zero, List.set_cons_succ, List.getElem_toArray, List.getElem_cons_zero, List.getElem_cons_succ])
  refine wpAnyH_take (i := 1) (v := ?_) rfl (by kernel_rfl) (by kernel_rfl) (by kernel_rfl) (fun _ _ _ h => h) (Or.inl ⟨by kernel_rfl, ?_⟩) (by assumption) ?_
  rotate_left
  · (intro w hSw; (try dsimp only at hSw); go_simp; first | done | with_reducible rfl)
  (try simp only [Act.put, List.setIfInBounds_toArray, List.set_cons_zero, List.set_cons_succ, List.getElem_toArray, List.getElem_cons_zero, List.getElem_cons_succ])
  refine wpAnyH_take (i := 2) (v := ?_) rfl (by kernel_rfl) (by kernel_rfl) (by kernel_rfl) (fun _ _ _ h => h) (Or.inl ⟨by kernel_rfl, ?_⟩) (by assumption) ?_
  rotate_left
  · (intro w hSw; (try dsimp only at hSw); go_simp; first | done | with_reducible rfl)
  (try simp only [Act.put, List.setIfInBounds_toArray, List.set_cons_zero, List.set_cons_succ, List.getElem_toArray, List.getElem_cons_zero, List.getElem_cons_succ])
  refine wpAnyH_take (i := 3) (v := ?_) rfl (by kernel_rfl) (by kernel_rfl) (by kernel_rfl) (fun _ _ _ h => h) (Or.inl ⟨by kernel_rfl, ?_⟩) (by assumption) ?_
  rotate_left
  · (intro w hSw; (try dsimp only at hSw); go_simp; first | done | with_reducible rfl)
  (try simp only [Act.put, List.setIfInBounds_toArray, List.set_cons_zero, List.set_cons_succ, List.getElem_toArray, List.getElem_cons_zero, List.getElem_cons_succ])
  refine wpAnyH_take (i := 4) (v := ?_) rfl (by kernel_rfl) (by kernel_rfl) (by kernel_rfl) (fun _ _ _ h => h) (Or.inl ⟨by kernel_rfl, ?_⟩) (by assumption) ?_
  rotate_left
  · (intro w hSw; (try dsimp only at hSw); go_simp; first | done | with_reducible rfl)
  (try simp only [Act.put, List.setIfInBounds_toArray, List.set_cons_zero, List.set_cons_succ, List.getElem_toArray, List.getElem_cons_zero, List.getElem_cons_succ])
  refine wpAnyH_take (i := 5) (v := ?_) rfl (by kernel_rfl) (by kernel_rfl) (by kernel_rfl) (fun _ _ _ h => h) (Or.inl ⟨by kernel_rfl, ?_⟩) (by assumption) ?_
  rotate_left
  · (intro w hSw; (try dsimp only at hSw); go_simp; first | done | with_reducible rfl)
  (try simp only [Act.put, List.setIfInBounds_toArray, List.set_cons_zero, List.set_cons_succ, List.getElem_toArray, List.getElem_cons_zero, List.getElem_cons_succ])
  refine wpAnyH_take (i := 6) (v := ?_) rfl (by kernel_rfl) (by kernel_rfl) (by kernel_rfl) (fun _ _ _ h => h) (Or.inl ⟨by kernel_rfl, ?_⟩) (by assumption) ?_
  rotate_left
  · (intro w hSw; (try dsimp only at hSw); go_simp; first | done | with_reducible rfl)
  (try simp only [Act.put, List.setIfInBounds_toArray, List.set_cons_zero, List.set_cons_succ, List.getElem_toArray, List.getElem_cons_zero, List.getElem_cons_succ])
  refine wpAnyH_take (i := 7) (v := ?_) rfl (by kernel_rfl) (by kernel_rfl) (by kernel_rfl) (fun _ _ _ h => h) (Or.inl ⟨by kernel_rfl, ?_⟩) (by assumption) ?_
  rotate_left
  · (intro w hSw; (try dsimp only at hSw); go_simp; first | done | with_reducible rfl)
  (try simp only [Act.put, List.setIfInBounds_toArray, List.set_cons_zero, List.set_cons_succ, List.getElem_toArray, List.getElem_cons_zero, List.getElem_cons_succ])
  refine wpAnyH_take (i := 8) (v := ?_) rfl (by kernel_rfl) (by kernel_rfl) (by kernel_rfl) (fun _ _ _ h => h) (Or.inl ⟨by kernel_rfl, ?_⟩) (by assumption) ?_
  rotate_left
  · (intro w hSw; (try dsimp only at hSw); go_simp; first | done | with_reducible rfl)
  (try simp only [Act.put, List.setIfInBounds_toArray, List.set_cons_zero, List.set_cons_succ, List.getElem_toArray, List.getElem_cons_zero, List.getElem_cons_succ])
  refine wpAnyH_take (i := 9) (v := ?_) rfl (by kernel_rfl) (by kernel_rfl) (by kernel_rfl) (fun _ _ _ h => h) (Or.inl ⟨by kernel_rfl, ?_⟩) (by assumption) ?_
  rotate_left
  · (intro w hSw; (try dsimp only at hSw); go_simp; first | done | with_reducible rfl)
  (try simp only [Act.put, List.setIfInBounds_toArray, List.set_cons_zero, List.set_cons_succ, List.getElem_toArray, List.getElem_cons_zero, List.getElem_cons_succ])
  refine wpAnyH_take (i := 10) (v := ?_) rfl (by kernel_rfl) (by kernel_rfl) (by kernel_rfl) (fun _ _ _ h => h) (Or.inl ⟨by kernel_rfl, ?_⟩) (by assumption) ?_
  rotate_left
  · (intro w hSw; (try dsimp only at hSw); go_simp; first | done | with_reducible rfl)
  (try simp only [Act.put, List.setIfInBounds_toArray, List.set_cons_zero, List.set_cons_succ, List.getElem_toArray, List.getElem_cons_zero, List.getElem_cons_succ])
  refine wpAnyH_take (i := 11) (v := ?_) rfl (by kernel_rfl) (by kernel_rfl) (by kernel_rfl) (fun _ _ _ h => h) (Or.inl ⟨by kernel_rfl, ?_⟩) (by assumption) ?_
  rotate_left
  · (intro w hSw; (try dsimp only at hSw); go_simp; first | done | with_reducible rfl)
  (try simp only [Act.put, List.setIfInBounds_toArray, List.set_cons_zero, List.set_cons_succ, List.getElem_toArray, List.getElem_cons_zero, List.getElem_cons_succ])
  refine wpAnyH_take (i := 12) (v := ?_) rfl (by kernel_rfl) (by kernel_rfl) (by kernel_rfl) (fun _ _ _ h => h) (Or.inl ⟨by kernel_rfl, ?_⟩) (by assumption) ?_
  rotate_left
  · (intro w hSw; (try dsimp only at hSw); go_simp; first | done | with_reducible rfl)
  (try simp only [Act.put, List.setIfInBounds_toArray, List.set_cons_zero, List.set_cons_succ, List.getElem_toArray, List.getElem_cons_zero, List.getElem_cons_succ])
  refine wpAnyH_take (i := 13) (v := ?_) rfl (by kernel_rfl) (by kernel_rfl) (by kernel_rfl) (fun _ _ _ h => h) (Or.inl ⟨by kernel_rfl, ?_⟩) (by assumption) ?_
  rotate_left
  · (intro w hSw; (try dsimp only at hSw); go_simp; first | done | with_reducible rfl)
  (try simp only [Act.put, List.setIfInBounds_toArray, List.set_cons_zero, List.set_cons_succ, List.getElem_toArray, List.getElem_cons_zero, List.getElem_cons_succ])
  refine wpAnyH_take (i := 14) (v := ?_) rfl (by kernel_rfl) (by kernel_rfl) (by kernel_rfl) (fun _ _ _ h => h) (Or.inl ⟨by kernel_rfl, ?_⟩) (by assumption) ?_
  rotate_left
  · (intro w hSw; (try dsimp only at hSw); go_simp; first | done | with_reducible rfl)
  (try simp only [Act.put, List.setIfInBounds_toArray, List.set_cons_zero, List.set_cons_succ, List.getElem_toArray, List.getElem_cons_zero, List.getElem_cons_succ])
  refine wpAnyH_ready (rs := [15]) (by kernel_rfl) (by simp) ?_
  refine AllReadyH.cons rfl (fun KK hKK => ?_) AllReadyH.nil
  go_simp
  refine (refseal_yes A1 n1 c1 enc A2 n2 c2 tag nx Aa na ca about Ap np cp p W.drew HL1.out HFE.out (rd_now HSE.out.e hbd) HK.out HL2.out HT30.out (rd_now HSE.out.t hbd) HAL.out HA30.out (rd_now HRA.out hbd) HPL.out HP6.out (rd_now HRP.out hbd)).mono ?_
  rintro e w3 ⟨v3, rfl, hO3, hb3⟩
  have hbW : Below W.heap.size W w3 := hbd.trans hb3
  have hS3 := HSE.out.below_ hbW
  have z0 := hS3.obj.cell (i := 0) rfl
  have z1 := hS3.obj.cell (i := 1) rfl
  have z2 := hS3.obj.cell (i := 2) rfl
  rw [HL1.out] at z0
  rw [HL2.out] at z1
  rw [HNI.out] at z2
  have HO3 := Lib.hid hO3
  have HS3 := Lib.hid hS3
  have HBW := Lib.hid hbW
  obtain ⟨A3, c3, hv3, _, _⟩ := ownb_form (n := 24 + np) hO3 (by rw [sealL_len, HPL.out])
  subst hv3
  clear hO3 hb3 hbW hS3
  go_wp2_with fail
  refine hKK.out _ _ ?_ (fun hHeld => ?_)
  · (exact ⟨z0, z1, z2⟩)
  clear hKK KK
  (try simp only [Act.put, List.setIfInBounds_toArray, List.set_cons_zero, List.set_cons_succ, List.getElem_toArray, List.getElem_cons_zero, List.getElem_cons_succ])
  refine wpAnyH_take (i := 16) (v := ?_) rfl (by kernel_rfl) (by kernel_rfl) (by kernel_rfl) (fun _ _ _ h => h) (Or.inl ⟨by kernel_rfl, ?_⟩) (by assumption) ?_
  rotate_left
  · (intro w hSw; (try dsimp only at hSw); go_simp; first | done | with_reducible rfl)
  (try simp only [Act.put, List.setIfInBounds_toArray, List.set_cons_zero, List.set_cons_succ, List.getElem_toArray, List.getElem_cons_zero, List.getElem_cons_succ])
  refine wpAnyH_take (i := 17) (v := ?_) rfl (by kernel_rfl) (by kernel_rfl) (by kernel_rfl) (fun _ _ _ h => h) (Or.inl ⟨by kernel_rfl, ?_⟩) (by assumption) ?_
  rotate_left
  · (intro w hSw; (try dsimp only at hSw); go_simp; first | done | with_reducible rfl)
  (try simp only [Act.put, List.setIfInBounds_toArray, List.set_cons_zero, List.set_cons_succ, List.getElem_toArray, List.getElem_cons_zero, List.getElem_cons_succ])
  refine wpAnyH_take (i := 18) (v := ?_) rfl (by kernel_rfl) (by kernel_rfl) (by kernel_rfl) (fun _ _ _ h => h) (Or.inl ⟨by kernel_rfl, ?_⟩) (by assumption) ?_
  rotate_left
  · (intro w hSw; (try dsimp only at hSw); go_simp; first | done | with_reducible rfl)
  (try simp only [Act.put, List.setIfInBounds_toArray, List.set_cons_zero, List.set_cons_succ, List.getElem_toArray, List.getElem_cons_zero, List.getElem_cons_succ])
  refine wpAnyH_take (i := 19) (v := ?_) rfl (by kernel_rfl) (by kernel_rfl) (by kernel_rfl) (fun _ _ _ h => h) (Or.inl ⟨by kernel_rfl, ?_⟩) (by assumption) ?_
  rotate_left
  · (intro w hSw; (try dsimp only at hSw); go_simp; first | done | with_reducible rfl)
  (try simp only [Act.put, List.setIfInBounds_toArray, List.set_cons_zero, List.set_cons_succ, List.getElem_toArray, List.getElem_cons_zero, List.getElem_cons_succ])
  refine wpAnyH_done (by kernel_rfl) ?_ _
  go_wp2_with fail
  go_ret2
  exact ⟨_, _, rfl, ownb_rd HO3.out, rfl, ⟨_, _, _, _, HS3.out⟩, HF1.out.trans (Frame.of_below (S := fun k => k < w.heap.size ∧ k ≠ g) HBW.out (fun b hb => by rw [HSZ.out]; exact hb.1)) (fun _ h => h)⟩
set_option maxRecDepth 100000 in
set_option maxHeartbeats 1000000 in
theorem rsseal_long (g : Nat) (Aa : Option Addr) (na ca : Nat) (Ap : Option Addr) (np cp : Nat) (w : World) (hp6 : 65536 < np) :
    Calls Tryz.prog 20 #[.pointer (some ⟨g, 0, none⟩), .slice Aa na ca, .slice Ap np cp] w fun e w' => e = .returned (.tuple #[.slice none 0 0, .int .i64 2]) ∧ w = w' := by
  have d1 : decide ((65536 : Int) < (np : Int)) = true := decide_eq_true (by omega)
  go_enter Tryz.func20, Tryz.ntmps20
  go_wp2_with fail
  go_ret2
  exact ⟨rfl, rfl⟩
set_option maxRecDepth 100000 in
set_option maxHeartbeats 1000000 in
theorem rsseal_end (base g : Nat) (enc tag : List UInt8) (Aa : Option Addr) (na ca : Nat) (Ap : Option Addr) (np cp : Nat) (w : World) (hp6 : np ≤ 65536) (h : RSeaE w base g enc tag 9223372036854775807) :
    Calls Tryz.prog 20 #[.pointer (some ⟨g, 0, none⟩), .slice Aa na ca, .slice Ap np cp] w fun e w' => e = .returned (.tuple #[.slice none 0 0, .int .i64 2]) ∧ w = w' := by
  have d1 : decide ((65536 : Int) < (np : Int)) = false := decide_eq_false (by omega)
  have b2 : w.cell? ⟨g, 2, none⟩ = some (.int .i64 9223372036854775807) := h.slot
  clear h
  go_enter Tryz.func20, Tryz.ntmps20
  go_wp2_with fail
  go_ret2
  exact ⟨rfl, rfl⟩
end Go.Proofs.YtcbihjcnnfohmaaGreat.Box

/- Two sealers side by side: what an act of one leaves of the other. -/
namespace Go.Proofs.YtcbihjcnnfohmaaGreat.Box
open Go Go.ChangeShapes Go.WideShapes Go.ChangeAt Go.RowKit Go.Proofs.YtcbihjcnnfohmaaGreat.Aes Go.Proofs.YtcbihjcnnfohmaaGreat.Str Go.Proofs.YtcbihjcnnfohmaaGreat.Mac Go.Proofs.YtcbihjcnnfohmaaGreat.Room
set_option linter.unusedVariables false
/-- Owned of one row, and what stays -/
theorem owned1f_any (w : World) (v1 : Value) (r1 : ORow) (l1 h1 : Nat) (e1 : v1 = r1.val) (q1 : RowIn w r1 l1 h1) (m1 : h1 ≤ w.heap.size) :
    Calls Tryz.prog 12 #[.slice (some ⟨w.heap.size, 0, none⟩) 1 1] (w.alloc (.cells #[v1] 22)) fun e w' => e = .returned (.bool true) ∧ Frame (fun k => k < w.heap.size ∧ r1.a ≠ some k) w w' := by
  subst e1
  have ho := owns_new (w := w) 22 [(r1, l1, h1)] (by intro x hx; simp only [List.mem_singleton] at hx; subst hx; exact ⟨q1, m1⟩) (by simp)
  refine (owned_any _ 1 1 [r1] _ rfl (by omega) ho).mono ?_
  rintro e w' ⟨rfl, hI⟩
  have hf : Frame (fun k => k < w.heap.size ∧ r1.a ≠ some k) (w.alloc (.cells #[r1.val] 22)) w' := ⟨hI.os, hI.tape, hI.output, Nat.le_of_eq hI.size.symm, fun k hk => hI.far k (fun r' hr hg => by
    simp only [List.mem_singleton] at hr
    subst hr
    exact hk.2 hg)⟩
  exact ⟨rfl, ((Frame.refl (fun k => k < w.heap.size ∧ r1.a ≠ some k) w).alloc (fun k hk => hk.1) _).trans hf (fun _ h => h)⟩
/-- the program's sealer g, the document's h, in blocks apart -/
structure Pair (w : World) (bp g bd h : Nat) (enc tag : List UInt8) (nx : Nat) : Prop where
  p : SeaE w bp g enc tag nx
  d : RSeaE w bd h enc tag nx
  gap : g < bd
section
variable {w w' : World} {bp g bd h nx : Nat} {enc tag : List UInt8}
theorem Pair.below_ (H : Pair w bp g bd h enc tag nx) (hb : Below w.heap.size w w') : Pair w' bp g bd h enc tag nx := ⟨H.p.below_ hb, H.d.below_ hb, H.gap⟩
/-- what writes outside both -/
theorem Pair.frame {S : Nat → Prop} (H : Pair w bp g bd h enc tag nx) (hf : Frame S w w') (hS : ∀ k, bp ≤ k → k < w.heap.size → S k) : Pair w' bp g bd h enc tag nx :=
  ⟨H.p.frame hf (fun k h1 h2 => hS k h1 (by have := H.p.lt; omega)), H.d.frame hf (fun k h1 h2 => hS k (by have := H.p.lt; have := H.gap; omega) (by have := H.d.lt; omega)), H.gap⟩
end
theorem nil_part {w : World} {base : Nat} : Rd w base none ([] : List UInt8) := Rd.nil _ _ _
end Go.Proofs.YtcbihjcnnfohmaaGreat.Box
