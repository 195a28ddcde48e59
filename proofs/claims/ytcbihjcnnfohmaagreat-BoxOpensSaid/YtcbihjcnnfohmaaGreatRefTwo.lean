/- The document's key: contract of New. -/
import Derived.Test.YtcbihjcnnfohmaaGreatAesRefR
import Derived.Deep.RegionHeld3
namespace Go.Proofs.YtcbihjcnnfohmaaGreat.Aes
open Go Go.ChangeShapes Go.WideShapes Go.ChangeAt Go.RowKit Go.Proofs.YtcbihjcnnfohmaaGreat.Fld
set_option linter.unusedVariables false
set_option linter.unusedSimpArgs false
/-- a key of the document's, to be read (below block B) -/
structure RKey (w : World) (B g n : Nat) (key : Blk) : Prop where
  nk : n = 4 ∨ n = 8
  kl : key.length = 4 * n
  lt : g < B
  rv : ∃ ad c, w.cell? ⟨g, 0, none⟩ = some (.slice (some ad) (n + 7) c) ∧ n + 7 ≤ c ∧ ad.block < B ∧ ∀ r, r < n + 7 → ∃ A' c', w.cell? (ad.add r) = some (.slice A' 16 c') ∧ 16 ≤ c' ∧ Rd w B A' (rkey (rounds n key) r)
  box : ∃ A c, w.cell? ⟨g, 1, none⟩ = some (.slice A 256 c) ∧ Rd w B A sbs
  unbox : ∃ A c, w.cell? ⟨g, 2, none⟩ = some (.slice A 256 c) ∧ Rd w B A uss
theorem RKey.below {w w' : World} {B g n : Nat} {key : Blk} (h : RKey w B g n key) (hb : Below B w w') : RKey w' B g n key := by
  refine ⟨h.nk, h.kl, h.lt, ?_, ?_, ?_⟩
  · obtain ⟨ad, c, h1, h2, h3, h4⟩ := h.rv
    refine ⟨ad, c, (hb.cell (p := ⟨g, 0, none⟩) h.lt).trans h1, h2, h3, fun r hr => ?_⟩
    obtain ⟨A', c', k1, k2, k3⟩ := h4 r hr
    exact ⟨A', c', (hb.cell (p := ad.add r) (by rw [add_block]; exact h3)).trans k1, k2, k3.below hb⟩
  · obtain ⟨A, c, h1, h2⟩ := h.box
    exact ⟨A, c, (hb.cell (p := ⟨g, 1, none⟩) h.lt).trans h1, h2.below hb⟩
  · obtain ⟨A, c, h1, h2⟩ := h.unbox
    exact ⟨A, c, (hb.cell (p := ⟨g, 2, none⟩) h.lt).trans h1, h2.below hb⟩
theorem RKey.more {w : World} {B B' g n : Nat} {key : Blk} (h : RKey w B g n key) (hb : B ≤ B') : RKey w B' g n key := by
  refine ⟨h.nk, h.kl, Nat.lt_of_lt_of_le h.lt hb, ?_, ?_, ?_⟩
  · obtain ⟨ad, c, h1, h2, h3, h4⟩ := h.rv
    refine ⟨ad, c, h1, h2, Nat.lt_of_lt_of_le h3 hb, fun r hr => ?_⟩
    obtain ⟨A', c', k1, k2, k3⟩ := h4 r hr
    exact ⟨A', c', k1, k2, k3.more hb⟩
  · obtain ⟨A, c, h1, h2⟩ := h.box
    exact ⟨A, c, h1, h2.more hb⟩
  · obtain ⟨A, c, h1, h2⟩ := h.unbox
    exact ⟨A, c, h1, h2.more hb⟩
/-- the same, in blocks of S -/
structure RKeyS (w : World) (S : Nat → Prop) (g n : Nat) (key : Blk) : Prop where
  nk : n = 4 ∨ n = 8
  kl : key.length = 4 * n
  lt : S g
  rv : ∃ ad c, w.cell? ⟨g, 0, none⟩ = some (.slice (some ad) (n + 7) c) ∧ n + 7 ≤ c ∧ S ad.block ∧ ∀ r, r < n + 7 → ∃ A' c', w.cell? (ad.add r) = some (.slice A' 16 c') ∧ 16 ≤ c' ∧ RdS w S A' (rkey (rounds n key) r)
  box : ∃ A c, w.cell? ⟨g, 1, none⟩ = some (.slice A 256 c) ∧ RdS w S A sbs
  unbox : ∃ A c, w.cell? ⟨g, 2, none⟩ = some (.slice A 256 c) ∧ RdS w S A uss
theorem RKeyS.frame {w w' : World} {S : Nat → Prop} {g n : Nat} {key : Blk} (h : RKeyS w S g n key) (hf : Frame S w w') : RKeyS w' S g n key := by
  have hc : ∀ {p : Addr} {v : Value}, S p.block → w.cell? p = some v → w'.cell? p = some v := fun hp hv => (World.cell?_of_block (hf.block _ hp)).trans hv
  refine ⟨h.nk, h.kl, h.lt, ?_, ?_, ?_⟩
  · obtain ⟨ad, c, h1, h2, h3, h4⟩ := h.rv
    refine ⟨ad, c, hc h.lt h1, h2, h3, fun r hr => ?_⟩
    obtain ⟨A', c', k1, k2, k3⟩ := h4 r hr
    exact ⟨A', c', hc (by rw [add_block]; exact h3) k1, k2, k3.frame hf⟩
  · obtain ⟨A, c, h1, h2⟩ := h.box
    exact ⟨A, c, hc h.lt h1, h2.frame hf⟩
  · obtain ⟨A, c, h1, h2⟩ := h.unbox
    exact ⟨A, c, hc h.lt h1, h2.frame hf⟩
theorem RKeyS.rk {w : World} {S : Nat → Prop} {B g n : Nat} {key : Blk} (h : RKeyS w S g n key) (hS : ∀ k, S k → k < B) : RKey w B g n key := by
  refine ⟨h.nk, h.kl, hS _ h.lt, ?_, ?_, ?_⟩
  · obtain ⟨ad, c, h1, h2, h3, h4⟩ := h.rv
    refine ⟨ad, c, h1, h2, hS _ h3, fun r hr => ?_⟩
    obtain ⟨A', c', k1, k2, k3⟩ := h4 r hr
    exact ⟨A', c', k1, k2, k3.rd hS⟩
  · obtain ⟨A, c, h1, h2⟩ := h.box
    exact ⟨A, c, h1, h2.rd hS⟩
  · obtain ⟨A, c, h1, h2⟩ := h.unbox
    exact ⟨A, c, h1, h2.rd hS⟩
theorem row_rds {w : World} {T : TypeId} {g : Nat} {s : List UInt8} (h : RowV w T g (bvs s)) {S : Nat → Prop} (hS : S g) : RdS w S (some ⟨g, 0, none⟩) s := fun h0 => ⟨_, rfl, hS, fun j hj => by rw [add_zero_block]; exact h.cell (bvs_get hj)⟩
theorem rws_ptrs {w : World} {tb e : TypeId} {base : Nat} {vs : List Value} {ls : List (List UInt8)} {Ao : Option Addr} {i co : Nat} (hR : Rws w tb e base (.slice Ao i co) vs ls) (h0 : 0 < vs.length) : ∃ ad, Ao = some ad ∧ ad.block < w.heap.size ∧ base ≤ ad.block ∧ ∀ (j : Nat) (l : List UInt8), ls[j]? = some l → ∃ A c, w.cell? (ad.add j) = some (.slice A l.length c) ∧ RdS w (fun k => base ≤ k ∧ k < w.heap.size) A l ∧ l.length ≤ c := by
  obtain ⟨g, off, c, hv, hgb, hgl, _⟩ := hR.own.at_ h0
  injection hv with h1 h2 h3
  refine ⟨⟨g, off, none⟩, h1, hgl, hgb, fun j l hl => ?_⟩
  obtain ⟨A, c', hA, hr, hc⟩ := hR.at_ hl
  have hj := (List.getElem?_eq_some_iff.1 hA).1
  obtain ⟨g2, off2, c2, hv2, _, _, hcell, _⟩ := hR.own.at_ hj
  injection hv2 with h4 h5 h6
  have h7 := h1.symm.trans h4
  injection h7 with h7
  have hO := hR.row j _ l hA hl
  refine ⟨A, c', ?_, fun h0 => ?_, hc⟩
  · rw [h7, addr_add, hcell, ← hA, List.getElem?_eq_getElem hj]
  · obtain ⟨g3, c3, he, b1, b2, _⟩ := hO.at_ (i := 0) h0
    injection he with he
    subst he
    exact ⟨_, rfl, ⟨b1, b2⟩, fun j hj => by rw [add_zero_block]; exact (hO.at_g hj).2.2.1⟩
theorem refnew_no (A : Option Addr) (L c : Nat) (w : World) (h : L ≠ 16 ∧ L ≠ 32) :
    Calls Tryz.prog 31 #[.slice A L c] w fun e w' => e = .returned (.tuple #[.pointer none, .int .i64 1]) ∧ w = w' := by
  have h1 : ((L : Int) != 16) = true := by rw [bne_iff_ne]; omega
  have h2 : ((L : Int) != 32) = true := by rw [bne_iff_ne]; omega
  clear h
  go_enter Tryz.func31, Tryz.ntmps31
  go_wp2_with fail
  go_ret2
  exact ⟨rfl, rfl⟩
theorem run_build_ref (A1 : Option Addr) (n1 c1 : Nat) (A2 : Option Addr) (n2 c2 : Nat) (A3 : Option Addr) (n3 c3 : Nat) (w : World) : (Instr.build 80 #[(0, .slice A1 n1 c1), (1, .slice A2 n2 c2), (2, .slice A3 n3 c3)]).run Tryz.prog w = .ok (.agg #[.slice A1 n1 c1, .slice A2 n2 c2, .slice A3 n3 c3]) w := by kernel_rfl
set_option maxRecDepth 100000 in
set_option maxHeartbeats 2000000 in
theorem refnew_any (A : Option Addr) (L c n : Nat) (key : Blk) (hn : n = 4 ∨ n = 8) (hL : L = 4 * n) (hkl : key.length = L) (hc : L ≤ c) (w : World) (hr : Rd w w.heap.size A key) :
    Calls Tryz.prog 31 #[.slice A L c] w fun e w' => ∃ g, e = .returned (.tuple #[.pointer (some ⟨g, 0, none⟩), .int .i64 0]) ∧ RKeyS w' (fun k => w.heap.size ≤ k ∧ k < w'.heap.size) g n key ∧ Below w.heap.size w w' := by
  have HR := Lib.hid hr
  have HN := Lib.hid hn
  have HL := Lib.hid hL
  have HK := Lib.hid hkl
  have HC := Lib.hid hc
  have t1 : L = 16 ∨ (L ≠ 16 ∧ L = 32) := by omega
  have t2 : (((L : Int) != 16) = false) ∨ (((L : Int) != 16) = true ∧ ((L : Int) != 32) = false) := by
    rcases t1 with h | ⟨h, h'⟩
    · left; rw [h]; rfl
    · right; rw [h']; exact ⟨rfl, rfl⟩
  clear t1 hr hn hL hkl hc
  have hcell := run_build_ref
  rcases t2 with t | ⟨t, t'⟩
  · skip
    go_enter Tryz.func31, Tryz.ntmps31
    go_wp2_with fail
    refine (boxes_any _).mono ?_
    rintro e w1 ⟨rfl, hg1, hb1⟩
    have HB1 := Lib.hid hb1
    have HX1 := Lib.hid (row_rd hg1)
    have HY1 := Lib.hid (row_rds hg1 (S := fun k => k = w.heap.size) rfl)
    have HZ1 := Lib.hid hg1.lt
    clear hg1 hb1
    go_wp2_with fail
    refine (refrounds_any A (some ⟨w.heap.size, 0, none⟩) c 256 n L key HN.out HL.out HK.out HC.out w1 (rd_now_ HR.out HB1.out) HX1.out).mono ?_
    rintro e w2 ⟨v, vs, rfl, hR2, hb2⟩
    have hvl : vs.length = n + 7 := by rw [hR2.len, rounds_length]
    obtain ⟨Ao, co, rfl, hco, _, _⟩ := hR2.own.len
    rw [hvl] at hR2 hco ⊢
    obtain ⟨ad, hAo, hadl, hadb, hrows⟩ := rws_ptrs hR2 (by rw [hvl]; omega)
    subst hAo
    have HB2 := Lib.hid (HB1.out.trans (hb2.mono HB1.out.size))
    have HX2 := Lib.hid (rd_now_ HX1.out hb2)
    have HY2 := Lib.hid (HY1.out.frame (Frame.of_below hb2 (S := fun k => k = w.heap.size) (fun k hk => by rw [hk]; exact HZ1.out)))
    have HADL := Lib.hid hadl
    have HADB := Lib.hid (Nat.le_trans HB1.out.size hadb)
    have HZ12 := Lib.hid hb2.size
    have HROWS := Lib.hid hrows
    have HCO := Lib.hid hco
    clear hR2 hb2 hrows hvl hadl hadb hco
    go_wp2_with fail
    refine (back_any (some ⟨w.heap.size, 0, none⟩) 256 w2 HX2.out).mono ?_
    rintro e w3 ⟨rfl, hg3, hb3⟩
    have HB3 := Lib.hid hb3
    have HU3 := Lib.hid (row_rds hg3 (S := fun k => k = w2.heap.size) rfl)
    have HZ3 := Lib.hid hg3.lt
    clear hg3 hb3
    have hbd := fun w' : World => hcell (some ad) (n + 7) co (some ⟨w.heap.size, 0, none⟩) 256 256 (some ⟨w2.heap.size, 0, none⟩) 256 256 w'
    go_wp2_with fail
    go_ret2
    have hz3 := HB3.out.size
    have hb4 : Below w3.heap.size w3 (w3.alloc (.cells #[.slice (some ad) (n + 7) co, .slice (some ⟨w.heap.size, 0, none⟩) 256 256, .slice (some ⟨w2.heap.size, 0, none⟩) 256 256] 80)) := (Below.refl _ _).alloc (Nat.le_refl _) _
    have hb24 := HB3.out.trans (hb4.mono hz3)
    have hrow : RowV (w3.alloc (.cells #[.slice (some ad) (n + 7) co, .slice (some ⟨w.heap.size, 0, none⟩) 256 256, .slice (some ⟨w2.heap.size, 0, none⟩) 256 256] 80)) 80 w3.heap.size [.slice (some ad) (n + 7) co, .slice (some ⟨w.heap.size, 0, none⟩) 256 256, .slice (some ⟨w2.heap.size, 0, none⟩) 256 256] := heap_alloc_new w3 _
    have hz4 : w3.heap.size < (w3.alloc (.cells #[.slice (some ad) (n + 7) co, .slice (some ⟨w.heap.size, 0, none⟩) 256 256, .slice (some ⟨w2.heap.size, 0, none⟩) 256 256] 80)).heap.size := by simp
    have hz2 := HB2.out.size
    have hz1 := HB1.out.size
    have hz12 := HZ12.out
    have hz23 := HB3.out.size
    have hl1 := HZ1.out
    have hl3 := HZ3.out
    refine ⟨w3.heap.size, rfl, ⟨HN.out, by rw [HK.out, HL.out], ⟨by omega, hz4⟩, ⟨ad, co, hrow.cell rfl, HCO.out, ⟨HADB.out, by have := HADL.out; omega⟩, fun r hr => ?_⟩, ⟨_, _, hrow.cell rfl, (HY2.out.frame (Frame.of_below hb24 (S := fun k => k = w.heap.size) (fun k hk => by omega))).mono (fun k hk => ⟨by omega, by omega⟩)⟩, ⟨_, _, hrow.cell rfl, (HU3.out.frame (Frame.of_below hb4 (S := fun k => k = w2.heap.size) (fun k hk => by omega))).mono (fun k hk => ⟨by omega, by omega⟩)⟩⟩, HB2.out.trans (hb24.mono hz2)⟩
    obtain ⟨A', c', k1, k2, k3⟩ := HROWS.out r (rkey (rounds n key) r) (by rw [rkey, List.getD_eq_getElem?_getD, List.getElem?_eq_getElem (by rw [rounds_length]; exact hr)]; rfl)
    have hn := HN.out
    have hrl : (rkey (rounds n key) r).length = 16 := (rounds_ok (n := n) (by rw [HK.out, HL.out]) (by omega) (by omega)).at_ (by rw [rounds_length]; exact hr)
    rw [hrl] at k1 k3
    exact ⟨A', c', (hb24.cell (p := ad.add r) (by rw [add_block]; exact HADL.out)).trans k1, k3, (k2.frame (Frame.of_below hb24 (S := fun k => w1.heap.size ≤ k ∧ k < w2.heap.size) (fun k hk => hk.2))).mono (fun k hk => ⟨by omega, by omega⟩)⟩
  · skip
    go_enter Tryz.func31, Tryz.ntmps31
    go_wp2_with fail
    refine (boxes_any _).mono ?_
    rintro e w1 ⟨rfl, hg1, hb1⟩
    have HB1 := Lib.hid hb1
    have HX1 := Lib.hid (row_rd hg1)
    have HY1 := Lib.hid (row_rds hg1 (S := fun k => k = w.heap.size) rfl)
    have HZ1 := Lib.hid hg1.lt
    clear hg1 hb1
    go_wp2_with fail
    refine (refrounds_any A (some ⟨w.heap.size, 0, none⟩) c 256 n L key HN.out HL.out HK.out HC.out w1 (rd_now_ HR.out HB1.out) HX1.out).mono ?_
    rintro e w2 ⟨v, vs, rfl, hR2, hb2⟩
    have hvl : vs.length = n + 7 := by rw [hR2.len, rounds_length]
    obtain ⟨Ao, co, rfl, hco, _, _⟩ := hR2.own.len
    rw [hvl] at hR2 hco ⊢
    obtain ⟨ad, hAo, hadl, hadb, hrows⟩ := rws_ptrs hR2 (by rw [hvl]; omega)
    subst hAo
    have HB2 := Lib.hid (HB1.out.trans (hb2.mono HB1.out.size))
    have HX2 := Lib.hid (rd_now_ HX1.out hb2)
    have HY2 := Lib.hid (HY1.out.frame (Frame.of_below hb2 (S := fun k => k = w.heap.size) (fun k hk => by rw [hk]; exact HZ1.out)))
    have HADL := Lib.hid hadl
    have HADB := Lib.hid (Nat.le_trans HB1.out.size hadb)
    have HZ12 := Lib.hid hb2.size
    have HROWS := Lib.hid hrows
    have HCO := Lib.hid hco
    clear hR2 hb2 hrows hvl hadl hadb hco
    go_wp2_with fail
    refine (back_any (some ⟨w.heap.size, 0, none⟩) 256 w2 HX2.out).mono ?_
    rintro e w3 ⟨rfl, hg3, hb3⟩
    have HB3 := Lib.hid hb3
    have HU3 := Lib.hid (row_rds hg3 (S := fun k => k = w2.heap.size) rfl)
    have HZ3 := Lib.hid hg3.lt
    clear hg3 hb3
    have hbd := fun w' : World => hcell (some ad) (n + 7) co (some ⟨w.heap.size, 0, none⟩) 256 256 (some ⟨w2.heap.size, 0, none⟩) 256 256 w'
    go_wp2_with fail
    go_ret2
    have hz3 := HB3.out.size
    have hb4 : Below w3.heap.size w3 (w3.alloc (.cells #[.slice (some ad) (n + 7) co, .slice (some ⟨w.heap.size, 0, none⟩) 256 256, .slice (some ⟨w2.heap.size, 0, none⟩) 256 256] 80)) := (Below.refl _ _).alloc (Nat.le_refl _) _
    have hb24 := HB3.out.trans (hb4.mono hz3)
    have hrow : RowV (w3.alloc (.cells #[.slice (some ad) (n + 7) co, .slice (some ⟨w.heap.size, 0, none⟩) 256 256, .slice (some ⟨w2.heap.size, 0, none⟩) 256 256] 80)) 80 w3.heap.size [.slice (some ad) (n + 7) co, .slice (some ⟨w.heap.size, 0, none⟩) 256 256, .slice (some ⟨w2.heap.size, 0, none⟩) 256 256] := heap_alloc_new w3 _
    have hz4 : w3.heap.size < (w3.alloc (.cells #[.slice (some ad) (n + 7) co, .slice (some ⟨w.heap.size, 0, none⟩) 256 256, .slice (some ⟨w2.heap.size, 0, none⟩) 256 256] 80)).heap.size := by simp
    have hz2 := HB2.out.size
    have hz1 := HB1.out.size
    have hz12 := HZ12.out
    have hz23 := HB3.out.size
    have hl1 := HZ1.out
    have hl3 := HZ3.out
    refine ⟨w3.heap.size, rfl, ⟨HN.out, by rw [HK.out, HL.out], ⟨by omega, hz4⟩, ⟨ad, co, hrow.cell rfl, HCO.out, ⟨HADB.out, by have := HADL.out; omega⟩, fun r hr => ?_⟩, ⟨_, _, hrow.cell rfl, (HY2.out.frame (Frame.of_below hb24 (S := fun k => k = w.heap.size) (fun k hk => by omega))).mono (fun k hk => ⟨by omega, by omega⟩)⟩, ⟨_, _, hrow.cell rfl, (HU3.out.frame (Frame.of_below hb4 (S := fun k => k = w2.heap.size) (fun k hk => by omega))).mono (fun k hk => ⟨by omega, by omega⟩)⟩⟩, HB2.out.trans (hb24.mono hz2)⟩
    obtain ⟨A', c', k1, k2, k3⟩ := HROWS.out r (rkey (rounds n key) r) (by rw [rkey, List.getD_eq_getElem?_getD, List.getElem?_eq_getElem (by rw [rounds_length]; exact hr)]; rfl)
    have hn := HN.out
    have hrl : (rkey (rounds n key) r).length = 16 := (rounds_ok (n := n) (by rw [HK.out, HL.out]) (by omega) (by omega)).at_ (by rw [rounds_length]; exact hr)
    rw [hrl] at k1 k3
    exact ⟨A', c', (hb24.cell (p := ad.add r) (by rw [add_block]; exact HADL.out)).trans k1, k3, (k2.frame (Frame.of_below hb24 (S := fun k => w1.heap.size ≤ k ∧ k < w2.heap.size) (fun k hk => hk.2))).mono (fun k hk => ⟨by omega, by omega⟩)⟩
end Go.Proofs.YtcbihjcnnfohmaaGreat.Aes

/- The document's Encrypt, Decrypt, RoundsOf: contracts. -/
namespace Go.Proofs.YtcbihjcnnfohmaaGreat.Aes
open Go Go.ChangeShapes Go.WideShapes Go.ChangeAt Go.RowKit Go.Proofs.YtcbihjcnnfohmaaGreat.Fld
set_option linter.unusedVariables false
set_option linter.unusedSimpArgs false
theorem shift_map {f : UInt8 → UInt8} {s : Blk} (hs : s.length = 16) : shiftL 1 (mapL f s) = turnL f s := by
  unfold shiftL turnL
  refine List.map_congr_left fun i hi => ?_
  rw [mapL_at hs (by omega), Nat.mul_one]
theorem map_shift {f : UInt8 → UInt8} {s : Blk} (hs : s.length = 16) : mapL f (shiftL 3 s) = unturnL f s := by
  unfold mapL shiftL unturnL
  rw [List.map_map]
  refine List.map_congr_left fun i hi => ?_
  simp only [Function.comp]
  congr 3
  omega
set_option maxRecDepth 100000 in
set_option maxHeartbeats 4000000 in
theorem refenc_any (g n : Nat) (key m : Blk) (A : Option Addr) (c : Nat) (w : World) (h : RKey w w.heap.size g n key) (hm : m.length = 16) (hr : Rd w w.heap.size A m) :
    Calls Tryz.prog 39 #[.pointer (some ⟨g, 0, none⟩), .slice A 16 c] w fun e w' => ∃ gv, e = .returned (.tuple #[.slice (some ⟨gv, 0, none⟩) 16 16, .int .i64 0]) ∧ RowV w' 5 gv (bvs (enc key m)) ∧ w.heap.size ≤ gv ∧ Below w.heap.size w w' := by
  obtain ⟨ad, cr, c0, hcr, hadl, hrows⟩ := h.rv
  obtain ⟨Ab, cb, c1, hbx⟩ := h.box
  have hgl := h.lt
  have hn := h.nk
  have hok := rounds_ok h.kl (by omega) (by omega)
  have hrl := rounds_length n key
  have hE : enc key m = encR (rounds n key) (n + 6) (n + 6) m := by
    unfold enc
    rw [show key.length / 4 = n by rw [h.kl]; omega]
  rw [hE]
  generalize rounds n key = R at *
  have n8 : n ≤ 8 := by omega
  obtain ⟨A0, k0, d0, hk0, hR0⟩ := hrows 0 (by omega)
  have HROWS := Lib.hid hrows
  have HBX := Lib.hid hbx
  have HOK := Lib.hid hok
  have HRL := Lib.hid hrl
  have HM := Lib.hid hm
  have HR := Lib.hid hr
  have HADL := Lib.hid hadl
  have hl0 : (rkey R 0).length = 16 := hok.at_ (by omega)
  have d0' : w.cell? ad = some (.slice A0 16 k0) := by
    rw [show ad.add 0 = ad by go_simp] at d0
    exact d0
  have HR0 := Lib.hid hR0
  have HL0 := Lib.hid hl0
  have C0 := Lib.hid c0
  have C1 := Lib.hid c1
  clear h hrows hbx hok hrl hm hr hE hn hR0 hl0
  go_enter Tryz.func39, Tryz.ntmps39
  go_wp2_with fail
  refine (reflay_any A A0 c k0 m (rkey R 0) HM.out HL0.out w HR.out HR0.out).mono ?_
  rintro e w1 ⟨rfl, hg1, hb1⟩
  have HG1 := Lib.hid (show RowV w1 5 w.heap.size (bvs (encR R (n + 6) 0 m)) from hg1)
  have HB1 := Lib.hid hb1
  have HTB := Lib.hid (show ∀ x : UInt8, sbs.getD x.toNat 0 = sb x from fun x => by rw [List.getD_eq_getElem?_getD, sbs_at]; rfl)
  clear hg1 hb1 c0 c1 d0 d0'
  go_wp2_with fail
  go_loopw [6, 7] (fun sv iv wr => ∃ i i1 gs : Nat, i1 = i + 1 ∧ i ≤ n + 6 ∧ iv = .int .i64 (i1 : Int) ∧ sv = .slice (some ⟨gs, 0, none⟩) 16 16 ∧ RowV wr 5 gs (bvs (encR R (n + 6) i m)) ∧ w.heap.size ≤ gs ∧ Below w.heap.size w wr) (fun _ iv _ => 64 - (intOf iv).toNat)
  case atStart => exact ⟨0, 1, _, rfl, by omega, rfl, rfl, HG1.out, Nat.le_refl _, HB1.out⟩
  case round =>
    obtain ⟨i, i1, gs, hi1, hi, rfl, rfl, hgs, hgw, hb⟩ := hrel
    clear HG1 HB1
    have hzr := hb.size
    have c0 := (hb.cell (p := ⟨g, 0, none⟩) hgl).trans C0.out
    have c1 := (hb.cell (p := ⟨g, 1, none⟩) hgl).trans C1.out
    have HG := Lib.hid hgs
    have HB := Lib.hid hb
    have HI1 := Lib.hid hi1
    have hi15 : i1 ≤ 15 := by omega
    clear hgs hb hi1
    obtain ⟨wo, rfl⟩ : ∃ wo : World, wo = wr := ⟨_, rfl⟩
    by_cases hlt : i < n + 6
    · have hlti : (i1 : Int) < (n : Int) + 7 := by have := HI1.out; omega
      obtain ⟨Ar, kr, d1, hkr, hRr⟩ := HROWS.out i1 (by have := HI1.out; omega)
      have hlr : (rkey R i1).length = 16 := HOK.out.at_ (by rw [HRL.out]; have := HI1.out; omega)
      have hst : encR R (n + 6) (i + 1) m = lay (if i + 1 < n + 6 then mixL (turnL sb (encR R (n + 6) i m)) else turnL sb (encR R (n + 6) i m)) (rkey R (i + 1)) := rfl
      have hsl : (encR R (n + 6) i m).length = 16 := encR_length HOK.out (n + 6) i m (by rw [HRL.out]; omega) HM.out
      rw [← HI1.out] at hst
      generalize encR R (n + 6) i m = s at *
      have HST := Lib.hid hst
      have HSL := Lib.hid hsl
      have D1 := Lib.hid d1
      have HRR := Lib.hid hRr
      have HLR := Lib.hid hlr
      clear hst hsl d1 hRr hlr hkr
      go_wp2_with fail
      refine (refswap_any (some ⟨gs, 0, none⟩) Ab 16 cb sb s sbs HSL.out sbs_length HTB.out wo (row_rd HG.out) (rd_now_ HBX.out HB.out)).mono ?_
      rintro e w2 ⟨rfl, hg2, hb2⟩
      have hz2 := hb2.size
      have HB2 := Lib.hid (HB.out.trans (hb2.mono hzr))
      have HG2 := Lib.hid hg2
      clear hg2 hb2
      go_wp2_with fail
      refine (refshift_any (some ⟨wo.heap.size, 0, none⟩) 16 1 (.inl rfl) (mapL sb s) (mapL_length HSL.out) w2 (row_rd HG2.out)).mono ?_
      rintro e w3 ⟨rfl, hg3, hb3⟩
      rw [shift_map HSL.out] at hg3
      have hz3 := hb3.size
      have HB3 := Lib.hid (HB2.out.trans (hb3.mono (by omega)))
      have HG3 := Lib.hid hg3
      have c03 := (HB3.out.cell (p := ⟨g, 0, none⟩) hgl).trans C0.out
      have d13 := (HB3.out.cell (p := ad.add i1) (by rw [add_block]; exact HADL.out)).trans D1.out
      clear hg3 hb3
      by_cases hlast : i1 < n + 6
      · have hl1 : (i1 : Int) < (n : Int) + 6 := by omega
        have HEN := Lib.hid (show encR R (n + 6) i1 m = lay (mixL (turnL sb s)) (rkey R i1) by
          have := HST.out
          rw [if_pos hlast] at this
          exact this)
        obtain ⟨W4, hW4⟩ : ∃ W4 : World, w3.alloc (.cells #[.int .i64 2, .int .i64 3, .int .i64 1, .int .i64 1] 3) = W4 := ⟨_, rfl⟩
        have hF4 : ∀ k, k < 4 → (fun k => [2, 3, 1, 1].getD k 0 : Nat → Nat) k < 16 := fun k hk => by
          have : k = 0 ∨ k = 1 ∨ k = 2 ∨ k = 3 := by omega
          rcases this with rfl | rfl | rfl | rfl <;> decide
        have hcells : ∀ k, k < 4 → W4.cell? (Addr.add ⟨w3.heap.size, 0, none⟩ k) = some (.int .i64 (((fun k => [2, 3, 1, 1].getD k 0 : Nat → Nat) k : Nat) : Int)) := fun k hk => by
          rw [← hW4, addr_add, Nat.zero_add, cell_of_row _ _ k _ _ (0, 0) (heap_alloc_new w3 _)]
          have : k = 0 ∨ k = 1 ∨ k = 2 ∨ k = 3 := by omega
          rcases this with rfl | rfl | rfl | rfl <;> rfl
        have hba : Below w3.heap.size w3 W4 := by rw [← hW4]; exact (Below.refl _ _).alloc (Nat.le_refl _) _
        have hza : W4.heap.size = w3.heap.size + 1 := by rw [← hW4]; simp
        have HW4 := Lib.hid hW4
        have HCL := Lib.hid hcells
        have HBA := Lib.hid hba
        clear hW4 hcells hba
        go_wp2_with fail
        rw [HW4.out]
        refine (refmix_any (some ⟨w2.heap.size, 0, none⟩) ⟨w3.heap.size, 0, none⟩ 16 4 (fun k => [2, 3, 1, 1].getD k 0) hF4 (turnL sb s) (turnL_length _ _) W4 (rd_now_ (row_rd HG3.out) HBA.out) (by simp only; omega) HCL.out).mono ?_
        rintro e w5 ⟨rfl, hg5, hb5⟩
        rw [mixF_mix rfl rfl rfl rfl] at hg5
        have hz5 := hb5.size
        have HB3 := Lib.hid ((HB3.out.trans (HBA.out.mono (by omega))).trans (hb5.mono (by omega)))
        have HG5 := Lib.hid hg5
        have c05 := (HB3.out.cell (p := ⟨g, 0, none⟩) hgl).trans C0.out
        have d15 := (HB3.out.cell (p := ad.add i1) (by rw [add_block]; exact HADL.out)).trans D1.out
        have hz35 : w3.heap.size ≤ w5.heap.size := by omega
        clear hg5 hb5 c03 d13 hza hz5 c0 c1 hF4
        go_wp2_with fail
        refine (reflay_any (some ⟨W4.heap.size, 0, none⟩) Ar 16 kr (mixL (turnL sb s)) (rkey R i1) (colL_length _ _) HLR.out w5 (row_rd HG5.out) (rd_now_ HRR.out HB3.out)).mono ?_
        rintro e w4 ⟨rfl, hg4, hb4⟩
        have hz4 := hb4.size
        have HB4 := Lib.hid (HB3.out.trans (hb4.mono (by omega)))
        have hg4' : RowV w4 5 w5.heap.size (bvs (encR R (n + 6) (i + 1) m)) := by rw [← HI1.out, HEN.out]; exact hg4
        have HG4 := Lib.hid hg4'
        clear hg4 hb4 hg4'
        go_wp2_with fail
        go_roundw
        case rel => exact ⟨i + 1, i1 + 1, _, by have := HI1.out; omega, by omega, by go_num, rfl, HG4.out, by omega, HB4.out⟩
        case measure => simp [intOf]; omega
      · have hl1 : ¬ (i1 : Int) < (n : Int) + 6 := by omega
        have HEN := Lib.hid (show encR R (n + 6) i1 m = lay (turnL sb s) (rkey R i1) by
          have := HST.out
          rw [if_neg hlast] at this
          exact this)
        go_wp2_with fail
        refine (reflay_any (some ⟨w2.heap.size, 0, none⟩) Ar 16 kr (turnL sb s) (rkey R i1) (turnL_length _ _) HLR.out w3 (row_rd HG3.out) (rd_now_ HRR.out HB3.out)).mono ?_
        rintro e w4 ⟨rfl, hg4, hb4⟩
        have hz4 := hb4.size
        have HB4 := Lib.hid (HB3.out.trans (hb4.mono (by omega)))
        have hg4' : RowV w4 5 w3.heap.size (bvs (encR R (n + 6) (i + 1) m)) := by rw [← HI1.out, HEN.out]; exact hg4
        have HG4 := Lib.hid hg4'
        clear hg4 hb4 hg4'
        go_wp2_with fail
        go_roundw
        case rel => exact ⟨i + 1, i1 + 1, _, by have := HI1.out; omega, by omega, by go_num, rfl, HG4.out, by omega, HB4.out⟩
        case measure => simp [intOf]; omega
    · have hie : i = n + 6 := by omega
      subst hie
      have hli : ¬ (i1 : Int) < (n : Int) + 7 := by have := HI1.out; omega
      go_wp2_with fail
      go_ret2
      exact ⟨gs, rfl, HG.out, hgw, HB.out⟩
end Go.Proofs.YtcbihjcnnfohmaaGreat.Aes

/- The document's Decrypt: contract. -/
namespace Go.Proofs.YtcbihjcnnfohmaaGreat.Aes
open Go Go.ChangeShapes Go.WideShapes Go.ChangeAt Go.RowKit Go.Proofs.YtcbihjcnnfohmaaGreat.Fld
set_option linter.unusedVariables false
set_option linter.unusedSimpArgs false
theorem refenc_no (g n : Nat) (A : Option Addr) (c : Nat) (w : World) (hn : n ≠ 16) :
    Calls Tryz.prog 39 #[.pointer (some ⟨g, 0, none⟩), .slice A n c] w fun e w' => e = .returned (.tuple #[.slice none 0 0, .int .i64 1]) ∧ w = w' := by
  have b16 : ((n : Int) != 16) = true := by rw [bne_iff_ne]; omega
  clear hn
  go_enter Tryz.func39, Tryz.ntmps39
  go_wp2_with fail
  go_ret2
  exact ⟨rfl, rfl⟩
end Go.Proofs.YtcbihjcnnfohmaaGreat.Aes
