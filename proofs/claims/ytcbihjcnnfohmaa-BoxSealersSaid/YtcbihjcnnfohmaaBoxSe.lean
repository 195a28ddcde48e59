/- A sealer: New, take, Seal, Next. Contracts. -/
import Derived.Test.YtcbihjcnnfohmaaBoxLaw
namespace Go.Proofs.Ytcbihjcnnfohmaa.Box
open Go Go.ChangeShapes Go.WideShapes Go.ChangeAt Go.RowKit Go.Proofs.Ytcbihjcnnfohmaa.Aes Go.Proofs.Ytcbihjcnnfohmaa.Str Go.Proofs.Ytcbihjcnnfohmaa.Mac
set_option linter.unusedVariables false
set_option linter.unusedSimpArgs false
/-- a sealer in block g -/
structure Sea (w : World) (base g : Nat) (enc tag : List UInt8) (nx : Nat) (A1 : Option Addr) (c1 : Nat) (A2 : Option Addr) (c2 : Nat) : Prop where
  obj : RowV w 99 g [.slice A1 enc.length c1, .slice A2 tag.length c2, .int .i64 (nx : Int)]
  e : Rd w w.heap.size A1 enc
  t : Rd w w.heap.size A2 tag
  ae : ∀ a, A1 = some a → a.block ≠ g
  at_ : ∀ a, A2 = some a → a.block ≠ g
  lo : base ≤ g
def SeaE (w : World) (base g : Nat) (enc tag : List UInt8) (nx : Nat) : Prop := ∃ A1 c1 A2 c2, Sea w base g enc tag nx A1 c1 A2 c2
theorem rd_far {w : World} {B : Nat} {A : Option Addr} {l : List UInt8} (h : Rd w B A l) {p : Addr} (u : Value) (hp : ∀ a, A = some a → a.block ≠ p.block) : Rd (w.setCell p u) B A l := fun h0 => by
  obtain ⟨ad, e, hb, hc⟩ := h h0
  refine ⟨ad, e, hb, fun j hj => ?_⟩
  rw [← hc j hj]
  exact World.cell?_of_block (by rw [add_block]; exact heap_setCell_other w p ad.block u (hp ad e))
section
variable {w w' : World} {base g nx c1 c2 : Nat} {enc tag : List UInt8} {A1 A2 : Option Addr}
theorem Sea.below_ (h : Sea w base g enc tag nx A1 c1 A2 c2) (hb : Below w.heap.size w w') : Sea w' base g enc tag nx A1 c1 A2 c2 :=
  ⟨h.obj.keep (hb.block g h.obj.lt), rd_now h.e hb, rd_now h.t hb, h.ae, h.at_, h.lo⟩
theorem SeaE.below_ (h : SeaE w base g enc tag nx) (hb : Below w.heap.size w w') : SeaE w' base g enc tag nx := by
  obtain ⟨A1, c1, A2, c2, h⟩ := h
  exact ⟨A1, c1, A2, c2, h.below_ hb⟩
theorem Sea.turn (h : Sea w base g enc tag nx A1 c1 A2 c2) (n' : Nat) : Sea (w.setCell ⟨g, 2, none⟩ (.int .i64 (n' : Int))) base g enc tag n' A1 c1 A2 c2 :=
  ⟨h.obj.set 2 _, by rw [World.size_setCell]; exact rd_far h.e _ h.ae, by rw [World.size_setCell]; exact rd_far h.t _ h.at_, h.ae, h.at_, h.lo⟩
end
theorem a64_store (b off : Nat) (y : Int) (u : Value) (w : World) (hc : w.cell? ⟨b, off, none⟩ = some u) (hz : w.frozen? ⟨b, off, none⟩ = false) :
    Calls Try.prog 63 #[.pointer (some ⟨b, off, none⟩), .int .i64 y] w fun e w' => e = .returned (.tuple #[]) ∧ w' = w.setCell ⟨b, off, none⟩ (.int .i64 y) := by
  have hst := run_call_store (P := Try.prog) Try.func79 (by kernel_rfl) (by kernel_rfl) (by kernel_rfl) (by kernel_rfl) (k := .i64) (y := y) hc hz
  go_enter Try.func63, Try.ntmps63
  go_wp2
  go_end0
  exact ⟨rfl, rfl⟩
theorem a64_load (b off : Nat) (x : Int) (w : World) (hc : w.cell? ⟨b, off, none⟩ = some (.int .i64 x)) :
    Calls Try.prog 65 #[.pointer (some ⟨b, off, none⟩)] w fun e w' => e = .returned (.int .i64 x) ∧ w = w' := by
  have hl := run_call_load (P := Try.prog) Try.func81 (by kernel_rfl) (by kernel_rfl) (by kernel_rfl) .i64 (by kernel_rfl) hc
  go_enter Try.func65, Try.ntmps65
  go_wp2
  go_ret
  exact ⟨rfl, rfl⟩
theorem a64_cas (b off : Nat) (x y : Int) (w : World) (hc : w.cell? ⟨b, off, none⟩ = some (.int .i64 x)) (hz : w.frozen? ⟨b, off, none⟩ = false) :
    Calls Try.prog 80 #[.pointer (some ⟨b, off, none⟩), .int .i64 x, .int .i64 y] w fun e w' => e = .returned (.bool true) ∧ w' = w.setCell ⟨b, off, none⟩ (.int .i64 y) := by
  have hcas := run_call_cas_hit (P := Try.prog) Try.func88 (by kernel_rfl) (by kernel_rfl) (by kernel_rfl) .i64 (by kernel_rfl) (y := y) hc hz
  go_enter Try.func80, Try.ntmps80
  go_wp2
  go_ret
  exact ⟨rfl, rfl⟩
set_option maxRecDepth 100000 in
set_option maxHeartbeats 1000000 in
theorem snew_yes (A1 : Option Addr) (n1 c1 : Nat) (l1 : List UInt8) (A2 : Option Addr) (n2 c2 : Nat) (l2 : List UInt8) (nx : Nat) (w : World) (h1 : l1.length = n1) (hm1 : n1 ≤ 140737488355328) (hr1 : Rd w w.heap.size A1 l1) (hk : KeyOk l1) (h2 : l2.length = n2) (hm2 : n2 ≤ 140737488355328) (hr2 : Rd w w.heap.size A2 l2) (hnx : nx < 9223372036854775808) :
    Calls Try.prog 38 #[.slice A1 n1 c1, .slice A2 n2 c2, .int .i64 (nx : Int)] w fun e w' => ∃ g, e = .returned (.tuple #[.pointer (some ⟨g, 0, none⟩), .int .i64 0]) ∧ SeaE w' w.heap.size g l1 l2 nx ∧ Below w.heap.size w w' := by
  have H1 := Lib.hid h1
  have HM1 := Lib.hid hm1
  have HR1 := Lib.hid hr1
  have HK := Lib.hid hk
  have H2 := Lib.hid h2
  have HM2 := Lib.hid hm2
  have HR2 := Lib.hid hr2
  have HNX := Lib.hid hnx
  have d0 : ¬ (nx : Int) < 0 := by omega
  clear h1 hm1 hr1 hk h2 hm2 hr2 hnx
  go_enter Try.func38, Try.ntmps38
  go_wp2_with fail
  refine (key_yes A1 n1 c1 l1 w w.heap.size (Nat.le_refl _) H1.out HR1.out HK.out).mono ?_
  rintro e w1 ⟨rfl, hb1⟩
  have HB1 := Lib.hid hb1
  have hz1 := hb1.size
  clear hb1
  go_wp2_with fail
  refine (bclone_any A1 n1 c1 l1 w1 w.heap.size hz1 H1.out HM1.out (HR1.out.below HB1.out)).mono ?_
  rintro e w2 ⟨v2, rfl, hO2, hb2⟩
  obtain ⟨A3, c3, hv3, hr3, _⟩ := hO2.form
  subst hv3
  have hz2 := hb2.size
  have HB2 := Lib.hid (HB1.out.trans (hb2.mono hz1))
  have HO2 := Lib.hid hO2
  have HR3 := Lib.hid hr3
  clear hO2 hb2 hr3
  go_wp2_with fail
  refine (bclone_any A2 n2 c2 l2 w2 w.heap.size (by omega) H2.out HM2.out (HR2.out.below HB2.out)).mono ?_
  rintro e w3 ⟨v3, rfl, hO3, hb3⟩
  obtain ⟨A4, c4, hv4, hr4, _⟩ := hO3.form
  subst hv4
  have hz3 := hb3.size
  have HB3 := Lib.hid (HB2.out.trans (hb3.mono (by omega)))
  have HO3 := Lib.hid hO3
  have HR4 := Lib.hid hr4
  have HR3' := Lib.hid (rd_now HR3.out hb3)
  clear hO3 hb3 hr4 HR3
  go_wp2_with fail
  have hro : RowV (w3.alloc (.cells #[.slice A3 l1.length c3, .slice A4 l2.length c4, .int .i64 0] 99)) 99 w3.heap.size [.slice A3 l1.length c3, .slice A4 l2.length c4, .int .i64 0] := heap_alloc_new w3 _
  have hb4 := HB3.out.alloc (by omega) (.cells #[.slice A3 l1.length c3, .slice A4 l2.length c4, .int .i64 0] 99)
  have hba : Below w3.heap.size w3 (w3.alloc (.cells #[.slice A3 l1.length c3, .slice A4 l2.length c4, .int .i64 0] 99)) := (Below.refl _ _).alloc (Nat.le_refl _) _
  have hsea : Sea (w3.alloc (.cells #[.slice A3 l1.length c3, .slice A4 l2.length c4, .int .i64 0] 99)) w.heap.size w3.heap.size l1 l2 0 A3 c3 A4 c4 := ⟨hro, rd_now HR3'.out hba, rd_now HR4.out hba, fun a e => by subst e; have := (HO2.out.lt a.block rfl).2; omega, fun a e => by subst e; have := (HO3.out.lt a.block rfl).2; omega, by omega⟩
  refine (a64_store w3.heap.size 2 (nx : Int) _ _ (hro.cell (i := 2) rfl) (hro.frozen 2)).mono ?_
  rintro e w4 ⟨rfl, rfl⟩
  have HSE := Lib.hid (hsea.turn nx)
  have HB4 := Lib.hid (hb4.setCell (p := ⟨w3.heap.size, 2, none⟩) (by show w.heap.size ≤ w3.heap.size; omega) (.int .i64 (nx : Int)))
  clear hro hb4 hba hsea
  generalize (w3.alloc (.cells #[.slice A3 l1.length c3, .slice A4 l2.length c4, .int .i64 0] 99)).setCell ⟨w3.heap.size, 2, none⟩ (.int .i64 (nx : Int)) = W4 at *
  go_wp2_with fail
  go_ret2
  exact ⟨_, rfl, ⟨_, _, _, _, HSE.out⟩, HB4.out⟩
set_option maxRecDepth 100000 in
set_option maxHeartbeats 1000000 in
theorem snew_no (A1 : Option Addr) (n1 c1 : Nat) (l1 : List UInt8) (A2 : Option Addr) (n2 c2 : Nat) (nx : Int) (w : World) (h1 : l1.length = n1) (hr1 : Rd w w.heap.size A1 l1) (h : ¬ KeyOk l1 ∨ nx < 0) :
    Calls Try.prog 38 #[.slice A1 n1 c1, .slice A2 n2 c2, .int .i64 nx] w fun e w' => e = .returned (.tuple #[.pointer none, .int .i64 1]) ∧ Below w.heap.size w w' := by
  have H1 := Lib.hid h1
  have HR1 := Lib.hid hr1
  clear h1 hr1
  by_cases hk : KeyOk l1
  · have hn : nx < 0 := h.resolve_left (fun h => h hk)
    have HK := Lib.hid hk
    clear hk h
    go_enter Try.func38, Try.ntmps38
    go_wp2_with fail
    refine (key_yes A1 n1 c1 l1 w w.heap.size (Nat.le_refl _) H1.out HR1.out HK.out).mono ?_
    rintro e w1 ⟨rfl, hb1⟩
    have HB1 := Lib.hid hb1
    clear hb1
    go_wp2_with fail
    go_ret2
    exact ⟨rfl, HB1.out⟩
  · have HK := Lib.hid hk
    clear hk h
    go_enter Try.func38, Try.ntmps38
    go_wp2_with fail
    refine (key_no A1 n1 c1 l1 w H1.out HK.out).mono ?_
    rintro e w1 ⟨rfl, rfl⟩
    go_wp2_with fail
    go_ret2
    exact ⟨rfl, Below.refl _ _⟩
set_option maxRecDepth 100000 in
set_option maxHeartbeats 1000000 in
theorem take_yes (g nx : Nat) (v1 v2 : Value) (w : World) (hr : RowV w 99 g [v1, v2, .int .i64 (nx : Int)]) (hnx : nx < 9223372036854775807) :
    Calls Try.prog 64 #[.pointer (some ⟨g, 0, none⟩)] w fun e w' => e = .returned (.tuple #[.int .i64 (nx : Int), .bool true]) ∧ w' = w.setCell ⟨g, 2, none⟩ (.int .i64 ((nx + 1 : Nat) : Int)) := by
  have c2 := hr.cell (i := 2) rfl
  have f2 := hr.frozen 2
  have hd : ((nx : Int) == 9223372036854775807) = false := by simp; omega
  have hp1 : (nx : Int) + 1 ≤ 9223372036854775807 := by omega
  have hs : ((nx + 1 : Nat) : Int) = (nx : Int) + 1 := by omega
  have hwr : IntKind.i64.wrap ((nx : Int) + 1) = (nx : Int) + 1 := i64_wraps _ (by omega) (by omega)
  rw [hs]
  clear hr hs
  go_enter Try.func64, Try.ntmps64
  go_wp2_with fail
  refine wp_loop_rounds 1 ?_
  rw [rounds_succ]
  go_wp2_with fail
  refine (a64_load g 2 (nx : Int) w c2).mono ?_
  rintro e w1 ⟨rfl, rfl⟩
  go_wp2_with fail
  refine (a64_cas g 2 (nx : Int) ((nx : Int) + 1) w c2 f2).mono ?_
  rintro e w1 ⟨rfl, rfl⟩
  go_wp2_with fail
  go_ret2
  exact ⟨rfl, rfl⟩
set_option maxRecDepth 100000 in
set_option maxHeartbeats 1000000 in
theorem take_no (g : Nat) (v1 v2 : Value) (w : World) (hr : RowV w 99 g [v1, v2, .int .i64 9223372036854775807]) :
    Calls Try.prog 64 #[.pointer (some ⟨g, 0, none⟩)] w fun e w' => e = .returned (.tuple #[.int .i64 0, .bool false]) ∧ w = w' := by
  have c2 := hr.cell (i := 2) rfl
  clear hr
  go_enter Try.func64, Try.ntmps64
  go_wp2_with fail
  refine wp_loop_rounds 1 ?_
  rw [rounds_succ]
  go_wp2_with fail
  refine (a64_load g 2 9223372036854775807 w c2).mono ?_
  rintro e w1 ⟨rfl, rfl⟩
  go_wp2_with fail
  go_ret2
  exact ⟨rfl, rfl⟩
theorem snext_any (base g nx : Nat) (enc tag : List UInt8) (w : World) (h : SeaE w base g enc tag nx) :
    Calls Try.prog 40 #[.pointer (some ⟨g, 0, none⟩)] w fun e w' => e = .returned (.int .i64 (nx : Int)) ∧ w = w' := by
  obtain ⟨A1, c1, A2, c2, h⟩ := h
  have x2 := h.obj.cell (i := 2) rfl
  clear h
  go_enter Try.func40, Try.ntmps40
  go_wp2_with fail
  refine (a64_load g 2 (nx : Int) w x2).mono ?_
  rintro e w1 ⟨rfl, rfl⟩
  go_wp2_with fail
  go_ret
  exact ⟨rfl, rfl⟩
end Go.Proofs.Ytcbihjcnnfohmaa.Box
