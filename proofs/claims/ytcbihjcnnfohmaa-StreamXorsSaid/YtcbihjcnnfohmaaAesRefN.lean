/- The document's key: contract of New. -/
import Derived.Test.YtcbihjcnnfohmaaAesRefR
namespace Go.Proofs.Ytcbihjcnnfohmaa.Aes
open Go Go.ChangeShapes Go.WideShapes Go.ChangeAt Go.RowKit Go.Proofs.Ytcbihjcnnfohmaa.Fld
set_option linter.unusedVariables false
set_option linter.unusedSimpArgs false
/-- a key of the document's, to be read (below block B) -/
structure RKey (w : World) (B g n : Nat) (key : Blk) : Prop where
  nk : n = 4 ∨ n = 8
  kl : key.length = 4 * n
  lt : g < B
  rv : ∃ ad c, w.cell? ⟨g, 0, none⟩ = some (.slice (some ad) (n + 7) c) ∧ n + 7 ≤ c ∧ ad.block < B ∧ ∀ r, r < n + 7 → ∃ A' c', w.cell? (ad.add r) = some (.slice A' 16 c') ∧ 16 ≤ c' ∧ Rd w B A' (rkey (rounds n key) r)
  box : ∃ A c, w.cell? ⟨g, 1, none⟩ = some (.slice A 256 c) ∧ Rd w B A sbs
  unbox : ∃ A c, w.cell? ⟨g, 2, none⟩ = some (.slice A 256 c) ∧ Rd w B A uss
theorem RKey.below {w w' : World} {B g n : Nat} {key : Blk} (h : RKey w B g n key) (hb : Below B w w') : RKey w' B g n key := by
  refine ⟨h.nk, h.kl, h.lt, ?_, ?_, ?_⟩
  · obtain ⟨ad, c, h1, h2, h3, h4⟩ := h.rv
    refine ⟨ad, c, (hb.cell (p := ⟨g, 0, none⟩) h.lt).trans h1, h2, h3, fun r hr => ?_⟩
    obtain ⟨A', c', k1, k2, k3⟩ := h4 r hr
    exact ⟨A', c', (hb.cell (p := ad.add r) (by rw [add_block]; exact h3)).trans k1, k2, k3.below hb⟩
  · obtain ⟨A, c, h1, h2⟩ := h.box
    exact ⟨A, c, (hb.cell (p := ⟨g, 1, none⟩) h.lt).trans h1, h2.below hb⟩
  · obtain ⟨A, c, h1, h2⟩ := h.unbox
    exact ⟨A, c, (hb.cell (p := ⟨g, 2, none⟩) h.lt).trans h1, h2.below hb⟩
theorem RKey.more {w : World} {B B' g n : Nat} {key : Blk} (h : RKey w B g n key) (hb : B ≤ B') : RKey w B' g n key := by
  refine ⟨h.nk, h.kl, Nat.lt_of_lt_of_le h.lt hb, ?_, ?_, ?_⟩
  · obtain ⟨ad, c, h1, h2, h3, h4⟩ := h.rv
    refine ⟨ad, c, h1, h2, Nat.lt_of_lt_of_le h3 hb, fun r hr => ?_⟩
    obtain ⟨A', c', k1, k2, k3⟩ := h4 r hr
    exact ⟨A', c', k1, k2, k3.more hb⟩
  · obtain ⟨A, c, h1, h2⟩ := h.box
    exact ⟨A, c, h1, h2.more hb⟩
  · obtain ⟨A, c, h1, h2⟩ := h.unbox
    exact ⟨A, c, h1, h2.more hb⟩
/-- the same, in blocks of S -/
structure RKeyS (w : World) (S : Nat → Prop) (g n : Nat) (key : Blk) : Prop where
  nk : n = 4 ∨ n = 8
  kl : key.length = 4 * n
  lt : S g
  rv : ∃ ad c, w.cell? ⟨g, 0, none⟩ = some (.slice (some ad) (n + 7) c) ∧ n + 7 ≤ c ∧ S ad.block ∧ ∀ r, r < n + 7 → ∃ A' c', w.cell? (ad.add r) = some (.slice A' 16 c') ∧ 16 ≤ c' ∧ RdS w S A' (rkey (rounds n key) r)
  box : ∃ A c, w.cell? ⟨g, 1, none⟩ = some (.slice A 256 c) ∧ RdS w S A sbs
  unbox : ∃ A c, w.cell? ⟨g, 2, none⟩ = some (.slice A 256 c) ∧ RdS w S A uss
theorem RKeyS.frame {w w' : World} {S : Nat → Prop} {g n : Nat} {key : Blk} (h : RKeyS w S g n key) (hf : Frame S w w') : RKeyS w' S g n key := by
  have hc : ∀ {p : Addr} {v : Value}, S p.block → w.cell? p = some v → w'.cell? p = some v := fun hp hv => (World.cell?_of_block (hf.block _ hp)).trans hv
  refine ⟨h.nk, h.kl, h.lt, ?_, ?_, ?_⟩
  · obtain ⟨ad, c, h1, h2, h3, h4⟩ := h.rv
    refine ⟨ad, c, hc h.lt h1, h2, h3, fun r hr => ?_⟩
    obtain ⟨A', c', k1, k2, k3⟩ := h4 r hr
    exact ⟨A', c', hc (by rw [add_block]; exact h3) k1, k2, k3.frame hf⟩
  · obtain ⟨A, c, h1, h2⟩ := h.box
    exact ⟨A, c, hc h.lt h1, h2.frame hf⟩
  · obtain ⟨A, c, h1, h2⟩ := h.unbox
    exact ⟨A, c, hc h.lt h1, h2.frame hf⟩
theorem RKeyS.rk {w : World} {S : Nat → Prop} {B g n : Nat} {key : Blk} (h : RKeyS w S g n key) (hS : ∀ k, S k → k < B) : RKey w B g n key := by
  refine ⟨h.nk, h.kl, hS _ h.lt, ?_, ?_, ?_⟩
  · obtain ⟨ad, c, h1, h2, h3, h4⟩ := h.rv
    refine ⟨ad, c, h1, h2, hS _ h3, fun r hr => ?_⟩
    obtain ⟨A', c', k1, k2, k3⟩ := h4 r hr
    exact ⟨A', c', k1, k2, k3.rd hS⟩
  · obtain ⟨A, c, h1, h2⟩ := h.box
    exact ⟨A, c, h1, h2.rd hS⟩
  · obtain ⟨A, c, h1, h2⟩ := h.unbox
    exact ⟨A, c, h1, h2.rd hS⟩
theorem row_rds {w : World} {T : TypeId} {g : Nat} {s : List UInt8} (h : RowV w T g (bvs s)) {S : Nat → Prop} (hS : S g) : RdS w S (some ⟨g, 0, none⟩) s := fun h0 => ⟨_, rfl, hS, fun j hj => by rw [add_zero_block]; exact h.cell (bvs_get hj)⟩
theorem rws_ptrs {w : World} {tb e : TypeId} {base : Nat} {vs : List Value} {ls : List (List UInt8)} {Ao : Option Addr} {i co : Nat} (hR : Rws w tb e base (.slice Ao i co) vs ls) (h0 : 0 < vs.length) : ∃ ad, Ao = some ad ∧ ad.block < w.heap.size ∧ base ≤ ad.block ∧ ∀ (j : Nat) (l : List UInt8), ls[j]? = some l → ∃ A c, w.cell? (ad.add j) = some (.slice A l.length c) ∧ RdS w (fun k => base ≤ k ∧ k < w.heap.size) A l ∧ l.length ≤ c := by
  obtain ⟨g, off, c, hv, hgb, hgl, _⟩ := hR.own.at_ h0
  injection hv with h1 h2 h3
  refine ⟨⟨g, off, none⟩, h1, hgl, hgb, fun j l hl => ?_⟩
  obtain ⟨A, c', hA, hr, hc⟩ := hR.at_ hl
  have hj := (List.getElem?_eq_some_iff.1 hA).1
  obtain ⟨g2, off2, c2, hv2, _, _, hcell, _⟩ := hR.own.at_ hj
  injection hv2 with h4 h5 h6
  have h7 := h1.symm.trans h4
  injection h7 with h7
  have hO := hR.row j _ l hA hl
  refine ⟨A, c', ?_, fun h0 => ?_, hc⟩
  · rw [h7, addr_add, hcell, ← hA, List.getElem?_eq_getElem hj]
  · obtain ⟨g3, c3, he, b1, b2, _⟩ := hO.at_ (i := 0) h0
    injection he with he
    subst he
    exact ⟨_, rfl, ⟨b1, b2⟩, fun j hj => by rw [add_zero_block]; exact (hO.at_g hj).2.2.1⟩
theorem refnew_no (A : Option Addr) (L c : Nat) (w : World) (h : L ≠ 16 ∧ L ≠ 32) :
    Calls Try.prog 18 #[.slice A L c] w fun e w' => e = .returned (.tuple #[.pointer none, .int .i64 1]) ∧ w = w' := by
  have h1 : ((L : Int) != 16) = true := by rw [bne_iff_ne]; omega
  have h2 : ((L : Int) != 32) = true := by rw [bne_iff_ne]; omega
  clear h
  go_enter Try.func18, Try.ntmps18
  go_wp2_with fail
  go_ret2
  exact ⟨rfl, rfl⟩
theorem run_build_ref (A1 : Option Addr) (n1 c1 : Nat) (A2 : Option Addr) (n2 c2 : Nat) (A3 : Option Addr) (n3 c3 : Nat) (w : World) : (Instr.build 78 #[(0, .slice A1 n1 c1), (1, .slice A2 n2 c2), (2, .slice A3 n3 c3)]).run Try.prog w = .ok (.agg #[.slice A1 n1 c1, .slice A2 n2 c2, .slice A3 n3 c3]) w := by kernel_rfl
set_option maxRecDepth 100000 in
set_option maxHeartbeats 2000000 in
theorem refnew_any (A : Option Addr) (L c n : Nat) (key : Blk) (hn : n = 4 ∨ n = 8) (hL : L = 4 * n) (hkl : key.length = L) (hc : L ≤ c) (w : World) (hr : Rd w w.heap.size A key) :
    Calls Try.prog 18 #[.slice A L c] w fun e w' => ∃ g, e = .returned (.tuple #[.pointer (some ⟨g, 0, none⟩), .int .i64 0]) ∧ RKeyS w' (fun k => w.heap.size ≤ k ∧ k < w'.heap.size) g n key ∧ Below w.heap.size w w' := by
  have HR := Lib.hid hr
  have HN := Lib.hid hn
  have HL := Lib.hid hL
  have HK := Lib.hid hkl
  have HC := Lib.hid hc
  have t1 : L = 16 ∨ (L ≠ 16 ∧ L = 32) := by omega
  have t2 : (((L : Int) != 16) = false) ∨ (((L : Int) != 16) = true ∧ ((L : Int) != 32) = false) := by
    rcases t1 with h | ⟨h, h'⟩
    · left; rw [h]; rfl
    · right; rw [h']; exact ⟨rfl, rfl⟩
  clear t1 hr hn hL hkl hc
  have hcell := run_build_ref
  rcases t2 with t | ⟨t, t'⟩
  · skip
    go_enter Try.func18, Try.ntmps18
    go_wp2_with fail
    refine (boxes_any _).mono ?_
    rintro e w1 ⟨rfl, hg1, hb1⟩
    have HB1 := Lib.hid hb1
    have HX1 := Lib.hid (row_rd hg1)
    have HY1 := Lib.hid (row_rds hg1 (S := fun k => k = w.heap.size) rfl)
    have HZ1 := Lib.hid hg1.lt
    clear hg1 hb1
    go_wp2_with fail
    refine (refrounds_any A (some ⟨w.heap.size, 0, none⟩) c 256 n L key HN.out HL.out HK.out HC.out w1 (rd_now_ HR.out HB1.out) HX1.out).mono ?_
    rintro e w2 ⟨v, vs, rfl, hR2, hb2⟩
    have hvl : vs.length = n + 7 := by rw [hR2.len, rounds_length]
    obtain ⟨Ao, co, rfl, hco, _, _⟩ := hR2.own.len
    rw [hvl] at hR2 hco ⊢
    obtain ⟨ad, hAo, hadl, hadb, hrows⟩ := rws_ptrs hR2 (by rw [hvl]; omega)
    subst hAo
    have HB2 := Lib.hid (HB1.out.trans (hb2.mono HB1.out.size))
    have HX2 := Lib.hid (rd_now_ HX1.out hb2)
    have HY2 := Lib.hid (HY1.out.frame (Frame.of_below hb2 (S := fun k => k = w.heap.size) (fun k hk => by rw [hk]; exact HZ1.out)))
    have HADL := Lib.hid hadl
    have HADB := Lib.hid (Nat.le_trans HB1.out.size hadb)
    have HZ12 := Lib.hid hb2.size
    have HROWS := Lib.hid hrows
    have HCO := Lib.hid hco
    clear hR2 hb2 hrows hvl hadl hadb hco
    go_wp2_with fail
    refine (back_any (some ⟨w.heap.size, 0, none⟩) 256 w2 HX2.out).mono ?_
    rintro e w3 ⟨rfl, hg3, hb3⟩
    have HB3 := Lib.hid hb3
    have HU3 := Lib.hid (row_rds hg3 (S := fun k => k = w2.heap.size) rfl)
    have HZ3 := Lib.hid hg3.lt
    clear hg3 hb3
    have hbd := fun w' : World => hcell (some ad) (n + 7) co (some ⟨w.heap.size, 0, none⟩) 256 256 (some ⟨w2.heap.size, 0, none⟩) 256 256 w'
    go_wp2_with fail
    go_ret2
    have hz3 := HB3.out.size
    have hb4 : Below w3.heap.size w3 (w3.alloc (.cells #[.slice (some ad) (n + 7) co, .slice (some ⟨w.heap.size, 0, none⟩) 256 256, .slice (some ⟨w2.heap.size, 0, none⟩) 256 256] 78)) := (Below.refl _ _).alloc (Nat.le_refl _) _
    have hb24 := HB3.out.trans (hb4.mono hz3)
    have hrow : RowV (w3.alloc (.cells #[.slice (some ad) (n + 7) co, .slice (some ⟨w.heap.size, 0, none⟩) 256 256, .slice (some ⟨w2.heap.size, 0, none⟩) 256 256] 78)) 78 w3.heap.size [.slice (some ad) (n + 7) co, .slice (some ⟨w.heap.size, 0, none⟩) 256 256, .slice (some ⟨w2.heap.size, 0, none⟩) 256 256] := heap_alloc_new w3 _
    have hz4 : w3.heap.size < (w3.alloc (.cells #[.slice (some ad) (n + 7) co, .slice (some ⟨w.heap.size, 0, none⟩) 256 256, .slice (some ⟨w2.heap.size, 0, none⟩) 256 256] 78)).heap.size := by simp
    have hz2 := HB2.out.size
    have hz1 := HB1.out.size
    have hz12 := HZ12.out
    have hz23 := HB3.out.size
    have hl1 := HZ1.out
    have hl3 := HZ3.out
    refine ⟨w3.heap.size, rfl, ⟨HN.out, by rw [HK.out, HL.out], ⟨by omega, hz4⟩, ⟨ad, co, hrow.cell rfl, HCO.out, ⟨HADB.out, by have := HADL.out; omega⟩, fun r hr => ?_⟩, ⟨_, _, hrow.cell rfl, (HY2.out.frame (Frame.of_below hb24 (S := fun k => k = w.heap.size) (fun k hk => by omega))).mono (fun k hk => ⟨by omega, by omega⟩)⟩, ⟨_, _, hrow.cell rfl, (HU3.out.frame (Frame.of_below hb4 (S := fun k => k = w2.heap.size) (fun k hk => by omega))).mono (fun k hk => ⟨by omega, by omega⟩)⟩⟩, HB2.out.trans (hb24.mono hz2)⟩
    obtain ⟨A', c', k1, k2, k3⟩ := HROWS.out r (rkey (rounds n key) r) (by rw [rkey, List.getD_eq_getElem?_getD, List.getElem?_eq_getElem (by rw [rounds_length]; exact hr)]; rfl)
    have hn := HN.out
    have hrl : (rkey (rounds n key) r).length = 16 := (rounds_ok (n := n) (by rw [HK.out, HL.out]) (by omega) (by omega)).at_ (by rw [rounds_length]; exact hr)
    rw [hrl] at k1 k3
    exact ⟨A', c', (hb24.cell (p := ad.add r) (by rw [add_block]; exact HADL.out)).trans k1, k3, (k2.frame (Frame.of_below hb24 (S := fun k => w1.heap.size ≤ k ∧ k < w2.heap.size) (fun k hk => hk.2))).mono (fun k hk => ⟨by omega, by omega⟩)⟩
  · skip
    go_enter Try.func18, Try.ntmps18
    go_wp2_with fail
    refine (boxes_any _).mono ?_
    rintro e w1 ⟨rfl, hg1, hb1⟩
    have HB1 := Lib.hid hb1
    have HX1 := Lib.hid (row_rd hg1)
    have HY1 := Lib.hid (row_rds hg1 (S := fun k => k = w.heap.size) rfl)
    have HZ1 := Lib.hid hg1.lt
    clear hg1 hb1
    go_wp2_with fail
    refine (refrounds_any A (some ⟨w.heap.size, 0, none⟩) c 256 n L key HN.out HL.out HK.out HC.out w1 (rd_now_ HR.out HB1.out) HX1.out).mono ?_
    rintro e w2 ⟨v, vs, rfl, hR2, hb2⟩
    have hvl : vs.length = n + 7 := by rw [hR2.len, rounds_length]
    obtain ⟨Ao, co, rfl, hco, _, _⟩ := hR2.own.len
    rw [hvl] at hR2 hco ⊢
    obtain ⟨ad, hAo, hadl, hadb, hrows⟩ := rws_ptrs hR2 (by rw [hvl]; omega)
    subst hAo
    have HB2 := Lib.hid (HB1.out.trans (hb2.mono HB1.out.size))
    have HX2 := Lib.hid (rd_now_ HX1.out hb2)
    have HY2 := Lib.hid (HY1.out.frame (Frame.of_below hb2 (S := fun k => k = w.heap.size) (fun k hk => by rw [hk]; exact HZ1.out)))
    have HADL := Lib.hid hadl
    have HADB := Lib.hid (Nat.le_trans HB1.out.size hadb)
    have HZ12 := Lib.hid hb2.size
    have HROWS := Lib.hid hrows
    have HCO := Lib.hid hco
    clear hR2 hb2 hrows hvl hadl hadb hco
    go_wp2_with fail
    refine (back_any (some ⟨w.heap.size, 0, none⟩) 256 w2 HX2.out).mono ?_
    rintro e w3 ⟨rfl, hg3, hb3⟩
    have HB3 := Lib.hid hb3
    have HU3 := Lib.hid (row_rds hg3 (S := fun k => k = w2.heap.size) rfl)
    have HZ3 := Lib.hid hg3.lt
    clear hg3 hb3
    have hbd := fun w' : World => hcell (some ad) (n + 7) co (some ⟨w.heap.size, 0, none⟩) 256 256 (some ⟨w2.heap.size, 0, none⟩) 256 256 w'
    go_wp2_with fail
    go_ret2
    have hz3 := HB3.out.size
    have hb4 : Below w3.heap.size w3 (w3.alloc (.cells #[.slice (some ad) (n + 7) co, .slice (some ⟨w.heap.size, 0, none⟩) 256 256, .slice (some ⟨w2.heap.size, 0, none⟩) 256 256] 78)) := (Below.refl _ _).alloc (Nat.le_refl _) _
    have hb24 := HB3.out.trans (hb4.mono hz3)
    have hrow : RowV (w3.alloc (.cells #[.slice (some ad) (n + 7) co, .slice (some ⟨w.heap.size, 0, none⟩) 256 256, .slice (some ⟨w2.heap.size, 0, none⟩) 256 256] 78)) 78 w3.heap.size [.slice (some ad) (n + 7) co, .slice (some ⟨w.heap.size, 0, none⟩) 256 256, .slice (some ⟨w2.heap.size, 0, none⟩) 256 256] := heap_alloc_new w3 _
    have hz4 : w3.heap.size < (w3.alloc (.cells #[.slice (some ad) (n + 7) co, .slice (some ⟨w.heap.size, 0, none⟩) 256 256, .slice (some ⟨w2.heap.size, 0, none⟩) 256 256] 78)).heap.size := by simp
    have hz2 := HB2.out.size
    have hz1 := HB1.out.size
    have hz12 := HZ12.out
    have hz23 := HB3.out.size
    have hl1 := HZ1.out
    have hl3 := HZ3.out
    refine ⟨w3.heap.size, rfl, ⟨HN.out, by rw [HK.out, HL.out], ⟨by omega, hz4⟩, ⟨ad, co, hrow.cell rfl, HCO.out, ⟨HADB.out, by have := HADL.out; omega⟩, fun r hr => ?_⟩, ⟨_, _, hrow.cell rfl, (HY2.out.frame (Frame.of_below hb24 (S := fun k => k = w.heap.size) (fun k hk => by omega))).mono (fun k hk => ⟨by omega, by omega⟩)⟩, ⟨_, _, hrow.cell rfl, (HU3.out.frame (Frame.of_below hb4 (S := fun k => k = w2.heap.size) (fun k hk => by omega))).mono (fun k hk => ⟨by omega, by omega⟩)⟩⟩, HB2.out.trans (hb24.mono hz2)⟩
    obtain ⟨A', c', k1, k2, k3⟩ := HROWS.out r (rkey (rounds n key) r) (by rw [rkey, List.getD_eq_getElem?_getD, List.getElem?_eq_getElem (by rw [rounds_length]; exact hr)]; rfl)
    have hn := HN.out
    have hrl : (rkey (rounds n key) r).length = 16 := (rounds_ok (n := n) (by rw [HK.out, HL.out]) (by omega) (by omega)).at_ (by rw [rounds_length]; exact hr)
    rw [hrl] at k1 k3
    exact ⟨A', c', (hb24.cell (p := ad.add r) (by rw [add_block]; exact HADL.out)).trans k1, k3, (k2.frame (Frame.of_below hb24 (S := fun k => w1.heap.size ≤ k ∧ k < w2.heap.size) (fun k hk => hk.2))).mono (fun k hk => ⟨by omega, by omega⟩)⟩
end Go.Proofs.Ytcbihjcnnfohmaa.Aes
