/- The stream's pad: a nonce and a number in bytes; the pad's blocks behind a closure: contracts. -/
import Derived.Test.YtkgnnlglabihkaaGreatDoorAesTwo
namespace Go.Proofs.YtkgnnlglabihkaaGreatDoor.Str
open Go Go.ChangeShapes Go.WideShapes Go.ChangeAt Go.RowKit Go.Proofs.YtkgnnlglabihkaaGreatDoor.Aes
set_option linter.unusedVariables false
set_option linter.unusedSimpArgs false

/-- byte i of eight -/
def b8 (n i : Nat) : UInt8 := UInt8.ofNat (n / 2 ^ (56 - 8 * i))
def be8 (n : Nat) : List UInt8 := (List.range 8).map (b8 n)
def cntL (a b : Nat) : Blk := be8 a ++ be8 b
theorem cntL_length (a b : Nat) : (cntL a b).length = 16 := by simp [cntL, be8]
def cu (a b : Nat) : Nat → Blk
  | 0 => List.replicate 16 0
  | t+1 => ((cu a b t).set t (b8 a t)).set (8 + t) (b8 b t)
theorem cu_length (a b : Nat) : ∀ t, (cu a b t).length = 16
  | 0 => by simp [cu]
  | t+1 => by rw [cu, List.length_set, List.length_set, cu_length a b t]
theorem cu_all (a b : Nat) : cu a b 8 = cntL a b := rfl
theorem b8_wrap {n i : Nat} {k : Int} (h : k = ((n / 2 ^ (56 - 8 * i) : Nat) : Int)) : IntKind.u8.wrap k = ((b8 n i).toNat : Int) := by
  subst h
  rw [IntKind.wrap_u8, b8, UInt8.toNat_ofNat']; omega
theorem shr_idx {t : Nat} (ht : t < 8) (a b : Nat) : ∃ m s qa qb : Nat, s ≤ 56 ∧ qa = a / 2 ^ (56 - 8 * t) ∧ qb = b / 2 ^ (56 - 8 * t) ∧ Hid (IntKind.i64.wrap (8 * (t : Int)) = (m : Int) ∧ IntKind.i64.wrap (56 - (m : Int)) = (s : Int) ∧ IntKind.i64.wrap (8 + (t : Int)) = ((8 + t : Nat) : Int) ∧ (a : Int) / 2 ^ s = (qa : Int) ∧ (b : Int) / 2 ^ s = (qb : Int)) := by
  refine ⟨8 * t, 56 - 8 * t, _, _, by omega, rfl, rfl, Lib.hid ⟨?_, ?_, ?_, by push_cast; rfl, by push_cast; rfl⟩⟩
  · rw [IntWalk.i64_in _ (by omega)]; push_cast; rfl
  · rw [IntWalk.i64_in _ (by omega)]; omega
  · rw [IntWalk.i64_in _ (by omega)]; push_cast; rfl
theorem at16 {l : List UInt8} (h : l.length = 16) {i : Nat} (hi : i < 16) : ∃ x, (bvs l)[i]? = some (bv x) := ⟨_, bvs_get (by omega)⟩
end Go.Proofs.YtkgnnlglabihkaaGreatDoor.Str

/- The pad's blocks behind a closure: contracts. -/
namespace Go.Proofs.YtkgnnlglabihkaaGreatDoor.Str
open Go Go.ChangeShapes Go.WideShapes Go.ChangeAt Go.RowKit Go.Proofs.YtkgnnlglabihkaaGreatDoor.Aes
set_option linter.unusedVariables false
set_option linter.unusedSimpArgs false

/-- what the closure holds: a key, a nonce -/
structure Strm (w : World) (base : Nat) (B : Nat → Prop) (g pk pn : Nat) (key : Blk) (nonce : Nat) : Prop where
  key : KeyIs w base B g key
  ck : w.cell? ⟨pk, 0, none⟩ = some (.pointer (some ⟨g, 0, none⟩))
  cn : w.cell? ⟨pn, 0, none⟩ = some (.int .i64 (nonce : Int))
  kl : pk < w.heap.size
  nl : pn < w.heap.size
  kb : ¬ B pk
  nb : ¬ B pn
theorem Strm.frame {w w' : World} {base g pk pn nonce : Nat} {B S : Nat → Prop} {key : Blk} (h : Strm w base B g pk pn key nonce) (hf : Frame S w w') (hS : ∀ k, B k → S k) (hk : S pk) (hn : S pn) : Strm w' base B g pk pn key nonce :=
  ⟨h.key.frame hf hS, (World.cell?_of_block (a := ⟨pk, 0, none⟩) (hf.block pk hk)).trans h.ck, (World.cell?_of_block (a := ⟨pn, 0, none⟩) (hf.block pn hn)).trans h.cn, Nat.lt_of_lt_of_le h.kl hf.size, Nat.lt_of_lt_of_le h.nl hf.size, h.kb, h.nb⟩
theorem RdS.elim_off {w : World} {g : Nat} {l : List UInt8} {B : Nat → Prop} (h : RdS w (fun k => k < w.heap.size) (some ⟨g, 0, none⟩) l) (hB : ¬ B g) : RdS w (Off w B) (some ⟨g, 0, none⟩) l := fun h0 => by
  obtain ⟨ad, e, hs, hc⟩ := h h0
  injection e with e
  subst e
  exact ⟨_, rfl, ⟨hs, hB⟩, hc⟩
end Go.Proofs.YtkgnnlglabihkaaGreatDoor.Str

/- The pad's blocks, and bytes under it: contracts of Pad and Xor. -/
namespace Go.Proofs.YtkgnnlglabihkaaGreatDoor.Str
open Go Go.ChangeShapes Go.WideShapes Go.ChangeAt Go.RowKit Go.Proofs.YtkgnnlglabihkaaGreatDoor.Aes
set_option linter.unusedVariables false
set_option linter.unusedSimpArgs false

/-- the pad -/
def padL (key : Blk) (nonce b : Nat) : Blk := enc key (cntL nonce b)
theorem padL_length {key : Blk} (hk : KeyOk key) (nonce b : Nat) : (padL key nonce b).length = 16 := enc_length hk (cntL_length _ _)
/-- bytes under it -/
def xorS (key : Blk) (nonce at_0 : Nat) (p : List UInt8) : List UInt8 := (List.range p.length).map fun i => p.getD i 0 ^^^ at_ (padL key nonce ((at_0 + i) / 16)) ((at_0 + i) % 16)
theorem xorS_length (key : Blk) (nonce a : Nat) (p : List UInt8) : (xorS key nonce a p).length = p.length := by simp [xorS]
theorem xorS_take {key : Blk} {nonce a : Nat} {p : List UInt8} {i : Nat} (hi : i < p.length) : (xorS key nonce a p).take (i+1) = (xorS key nonce a p).take i ++ [p.getD i 0 ^^^ at_ (padL key nonce ((a + i) / 16)) ((a + i) % 16)] := by
  rw [List.take_succ_eq_append_getElem (by rw [xorS_length]; exact hi)]
  simp [xorS]
/-! ### Xor -/
theorem slice_from (g L c o k : Nat) (ho : o + k = L) (hk : 0 < k) (hL : L ≤ c) (w : World) : (Instr.slice 22 (.slice (some ⟨g, 0, none⟩) L c) (some (.int .i64 (o : Int))) none none).run Tryz.prog w = .ok (.slice (some ⟨g, o, none⟩) k (c - o)) w := by
  have hu : Tryz.prog.underlying 22 = some (.slice (Tryz.prog.elem 22)) := by kernel_rfl
  have hz : (sizeOf (Tryz.prog.elem 22)).run Tryz.prog w = .ok 1 w := by kernel_rfl
  rw [run_slice_l w _ _ _ _ hu .i64 (o : Int) (by omega) (by omega), hz, Result.andThen_ok, sliced]
  rw [if_neg (by omega), Option.map_some, addr_add, Int.toNat_natCast, Nat.mul_one, Nat.zero_add, show L - o = k by omega]
theorem slice_to (g o L c k : Nat) (hk : 0 < k) (hL : k ≤ c) (w : World) : (Instr.slice 22 (.slice (some ⟨g, o, none⟩) L c) none (some (.int .i64 (k : Int))) none).run Tryz.prog w = .ok (.slice (some ⟨g, o, none⟩) k c) w := by
  have hu : Tryz.prog.underlying 22 = some (.slice (Tryz.prog.elem 22)) := by kernel_rfl
  have hz : (sizeOf (Tryz.prog.elem 22)).run Tryz.prog w = .ok 1 w := by kernel_rfl
  rw [run_slice_h w _ _ _ _ hu .i64 (k : Int) (by omega) (by omega), hz, Result.andThen_ok, sliced]
  rw [if_neg (by omega), Option.map_some, addr_add, Int.toNat_natCast]
  simp
theorem own_g {w : World} {e : TypeId} {base : Nat} {v : Value} {l : List UInt8} (h : Own w e base v l) {n : Nat} (hn : l.length = n) (h0 : 0 < n) : ∃ g c, v = .slice (some ⟨g, 0, none⟩) n c ∧ n ≤ c ∧ base ≤ g ∧ g < w.heap.size := by
  subst hn
  obtain ⟨g, c, hv, h1, h2, _⟩ := h.at_ (i := 0) h0
  obtain ⟨A, c', hv', _, hc⟩ := h.form
  rw [hv] at hv'
  injection hv' with e1 e2 e3
  subst e3
  exact ⟨g, c, hv, hc, h1, h2⟩
theorem rd_some2 {w : World} {B : Nat} {A : Option Addr} {l : List UInt8} (h : Rd w B A l) (h0 : 0 < l.length) : ∃ ad, A = some ad ∧ ad.block < B ∧ ∀ k, k < l.length → w.cell? (ad.add k) = some (bv (l.getD k 0)) := by
  obtain ⟨ad, e, hb, hc⟩ := h h0
  exact ⟨ad, e, hb, fun k hk => by rw [hc k hk]; simp [List.getD_eq_getElem?_getD, hk]⟩
def lenV : Value → Nat
  | .slice _ k _ => k
  | _ => 0
theorem own_zero {w : World} {base : Nat} (hb : base ≤ w.heap.size) (n : Nat) (hn : n ≤ 1048576) : Own (w.alloc (.cells (bvs (List.replicate n 0)).toArray 5)) 5 base (.slice (some ⟨w.heap.size, 0, none⟩) 0 n) [] := by
  have h : Row (w.alloc (.cells (bvs (List.replicate n 0)).toArray 5)) 5 w.heap.size ([] ++ List.replicate n 0) := Row.new w _ _
  exact h.toOwn hb rfl (by simp) (by omega)
end Go.Proofs.YtkgnnlglabihkaaGreatDoor.Str

/- Lemmas for this layer's statements. -/
namespace Go.Proofs.YtkgnnlglabihkaaGreatDoor.Str
open Go Go.ChangeShapes Go.WideShapes Go.ChangeAt Go.RowKit Go.Proofs.YtkgnnlglabihkaaGreatDoor.Aes
set_option linter.unusedVariables false
theorem str_app (a b : List UInt8) : str a ++ str b = str (a ++ b) := by
  apply ByteArray.ext
  simp [str]
theorem str_size (a : List UInt8) : (str a).size = a.length := by show a.toArray.size = _; simp
set_option maxRecDepth 20000 in
theorem arg_to {w : World} {B : Nat} {A : Option Addr} {n c k : Nat} {l : List UInt8} (hr : Rd w B A l) (hn : l.length = n) (hk : k ≤ n) (hc : n ≤ c) : ∃ A', (∀ w' : World, (Instr.slice 22 (.slice A n c) none (some (.int .i64 (k : Int))) none).run Tryz.prog w' = .ok (.slice A' k c) w') ∧ Rd w B A' (l.take k) := by
  have hu : Tryz.prog.underlying 22 = some (.slice (Tryz.prog.elem 22)) := by kernel_rfl
  have hz : ∀ w, (sizeOf (Tryz.prog.elem 22)).run Tryz.prog w = .ok 1 w := fun w => by kernel_rfl
  refine ⟨if c = 0 then A else A.map (·.add 0), fun w' => ?_, ?_⟩
  · rw [run_slice_h w' _ _ _ _ hu .i64 (k : Int) (by omega) (by omega), hz, Result.andThen_ok, sliced]
    simp
  · have := (hr.drop 0 (cap := c) (by omega)).take k
    rwa [List.drop_zero] at this
set_option maxRecDepth 20000 in
theorem arg_from {w : World} {B : Nat} {A : Option Addr} {n c k : Nat} {l : List UInt8} (hr : Rd w B A l) (hn : l.length = n) (hk : k ≤ n) (hc : n ≤ c) : ∃ A', (∀ w' : World, (Instr.slice 22 (.slice A n c) (some (.int .i64 (k : Int))) none none).run Tryz.prog w' = .ok (.slice A' (n - k) (c - k)) w') ∧ Rd w B A' (l.drop k) := by
  have hu : Tryz.prog.underlying 22 = some (.slice (Tryz.prog.elem 22)) := by kernel_rfl
  have hz : ∀ w, (sizeOf (Tryz.prog.elem 22)).run Tryz.prog w = .ok 1 w := fun w => by kernel_rfl
  refine ⟨if c = k then A else A.map (·.add k), fun w' => ?_, hr.drop k (by omega)⟩
  rw [run_slice_l w' _ _ _ _ hu .i64 (k : Int) (by omega) (by omega), hz, Result.andThen_ok, sliced]
  simp
theorem rd_now {w w' : World} {A : Option Addr} {l : List UInt8} (hr : Rd w w.heap.size A l) (hb : Below w.heap.size w w') : Rd w' w'.heap.size A l := (hr.below hb).more hb.size
theorem own_rd {w : World} {base n c : Nat} {A : Option Addr} {l : List UInt8} (h : Own w 5 base (.slice A n c) l) : Rd w w.heap.size A l := by
  obtain ⟨A', c', e, hr, _⟩ := h.form
  injection e with e1 e2 e3
  subst e1
  exact hr
theorem zeros_rd (w : World) : Rd (w.alloc (.cells (bvs (List.replicate 16 0)).toArray 5)) (w.alloc (.cells (bvs (List.replicate 16 0)).toArray 5)).heap.size (some ⟨w.heap.size, 0, none⟩) (List.replicate 16 0) := (Row.new w 5 (List.replicate 16 0)).rd
end Go.Proofs.YtkgnnlglabihkaaGreatDoor.Str
