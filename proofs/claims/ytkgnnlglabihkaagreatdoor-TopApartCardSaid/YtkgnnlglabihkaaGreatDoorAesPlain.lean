/- The block cipher as plain functions of bytes: the program's own and the document's, and that they are alike. No program in sight. -/
import Derived.Test.YtkgnnlglabihkaaGreatDoorFldAll
namespace Go.Proofs.YtkgnnlglabihkaaGreatDoor.Aes
open Go Go.Proofs.YtkgnnlglabihkaaGreatDoor.Fld
set_option linter.unusedVariables false
set_option linter.unusedSimpArgs false

theorem all8 {p : UInt8 → Prop} (h : ∀ n < 256, p (UInt8.ofNat n)) (x : UInt8) : p x := by
  have := h x.toNat x.toNat_lt
  rwa [UInt8.ofNat_toNat] at this
theorem nat8 {n : Nat} (h : n < 256) : (UInt8.ofNat n).toNat = n := by rw [UInt8.toNat_ofNat']; omega
/-- times 2; the byte map, and the way back; times a small factor -/
def tw (x : UInt8) : UInt8 := UInt8.ofNat (xt x.toNat)
def sb (x : UInt8) : UInt8 := UInt8.ofNat (box x.toNat)
def us (x : UInt8) : UInt8 := UInt8.ofNat (unbox x.toNat)
def tm (f : Nat) (x : UInt8) : UInt8 := UInt8.ofNat (gm x.toNat f)
theorem tw_nat (x : UInt8) : (tw x).toNat = xt x.toNat := nat8 (xt_lt _ x.toNat_lt)
theorem sb_nat (x : UInt8) : (sb x).toNat = box x.toNat := nat8 (box_lt _ x.toNat_lt)
theorem us_nat (x : UInt8) : (us x).toNat = unbox x.toNat := nat8 (unbox_lt _ x.toNat_lt)
theorem us_sb (x : UInt8) : us (sb x) = x := by
  apply UInt8.toNat_inj.1
  rw [us_nat, sb_nat, unbox_box _ x.toNat_lt]
theorem sb_us (x : UInt8) : sb (us x) = x := by
  apply UInt8.toNat_inj.1
  rw [sb_nat, us_nat, box_unbox _ x.toNat_lt]
theorem tw_xor (a b : UInt8) : tw (a ^^^ b) = tw a ^^^ tw b := by
  apply UInt8.toNat_inj.1
  rw [tw_nat, UInt8.toNat_xor, UInt8.toNat_xor, tw_nat, tw_nat, xt_xor _ _ a.toNat_lt b.toNat_lt]
theorem xlc8 (a b c : UInt8) : a ^^^ (b ^^^ c) = b ^^^ (a ^^^ c) := by rw [← UInt8.xor_assoc, UInt8.xor_comm a b, UInt8.xor_assoc]
theorem xcc8 (a b : UInt8) : a ^^^ (a ^^^ b) = b := by rw [← UInt8.xor_assoc, UInt8.xor_self, UInt8.zero_xor]
theorem xcr8 (a b : UInt8) : (b ^^^ a) ^^^ a = b := by rw [UInt8.xor_assoc, UInt8.xor_self, UInt8.xor_zero]
theorem tm1 : ∀ x, tm 1 x = x := all8 (by decide +kernel)
theorem tm2 : ∀ x, tm 2 x = tw x := all8 (by decide +kernel)
theorem tm3 : ∀ x, tm 3 x = x ^^^ tw x := all8 (by decide +kernel)
theorem tm9 : ∀ x, tm 9 x = x ^^^ tw (tw (tw x)) := all8 (by decide +kernel)
theorem tm11 : ∀ x, tm 11 x = x ^^^ tw x ^^^ tw (tw (tw x)) := all8 (by decide +kernel)
theorem tm13 : ∀ x, tm 13 x = x ^^^ tw (tw x) ^^^ tw (tw (tw x)) := all8 (by decide +kernel)
theorem tm14 : ∀ x, tm 14 x = tw x ^^^ tw (tw x) ^^^ tw (tw (tw x)) := all8 (by decide +kernel)

/-! ### a column -/
def m (a b c d : UInt8) : UInt8 := b ^^^ (c ^^^ (d ^^^ (tw a ^^^ tw b)))
def m2 (a b c d : UInt8) : UInt8 := a ^^^ (tw (tw a) ^^^ tw (tw c))
def m3 (a b c d : UInt8) : UInt8 := tm 14 a ^^^ (tm 11 b ^^^ (tm 13 c ^^^ tm 9 d))
theorem m_go (a b c d e : UInt8) (h : e = a ^^^ (b ^^^ (c ^^^ d))) : a ^^^ (e ^^^ tw (a ^^^ b)) = m a b c d := by
  subst h; unfold m; rw [tw_xor]; simp only [UInt8.xor_assoc, xcc8]
theorem m_ref (a b c d : UInt8) : tm 2 a ^^^ (tm 3 b ^^^ (tm 1 c ^^^ tm 1 d)) = m a b c d := by
  rw [tm2, tm3, tm1, tm1]; unfold m; ac_rfl
theorem m_m (a b c d : UInt8) : m (m a b c d) (m b c d a) (m c d a b) (m d a b c) = m2 a b c d := by
  unfold m m2; simp only [tw_xor, UInt8.xor_assoc, UInt8.xor_comm, xlc8, xcc8, UInt8.xor_self, UInt8.xor_zero, UInt8.zero_xor]
theorem m2_m2 (a b c d : UInt8) : m2 (m2 a b c d) (m2 b c d a) (m2 c d a b) (m2 d a b c) = a := by
  unfold m2; simp only [tw_xor, UInt8.xor_assoc, UInt8.xor_comm, xlc8, xcc8, UInt8.xor_self, UInt8.xor_zero, UInt8.zero_xor]
theorem m2_m (a b c d : UInt8) : m (m2 a b c d) (m2 b c d a) (m2 c d a b) (m2 d a b c) = m3 a b c d := by
  unfold m m2 m3; rw [tm14, tm11, tm13, tm9]; simp only [tw_xor, UInt8.xor_assoc, UInt8.xor_comm, xlc8, xcc8, UInt8.xor_self, UInt8.xor_zero, UInt8.zero_xor]

/-! ### a block -/
abbrev Blk := List UInt8
def at_ (s : Blk) (i : Nat) : UInt8 := s.getD i 0
theorem sixteen {s : Blk} (h : s.length = 16) : ∃ a b c d e f g i j k l m n o p q, s = [a, b, c, d, e, f, g, i, j, k, l, m, n, o, p, q] := by
  match s, h with
  | [a, b, c, d, e, f, g, i, j, k, l, m, n, o, p, q], _ => exact ⟨a, b, c, d, e, f, g, i, j, k, l, m, n, o, p, q, rfl⟩
def colL (f : UInt8 → UInt8 → UInt8 → UInt8 → UInt8) (s : Blk) : Blk := (List.range 16).map fun i => f (at_ s i) (at_ s (i / 4 * 4 + (i + 1) % 4)) (at_ s (i / 4 * 4 + (i + 2) % 4)) (at_ s (i / 4 * 4 + (i + 3) % 4))
theorem colL_length (f s) : (colL f s).length = 16 := by simp [colL]
def mixL : Blk → Blk := colL m
def unmixL : Blk → Blk := colL m3
theorem mix_mix {s : Blk} (h : s.length = 16) : mixL (mixL s) = colL m2 s := by
  obtain ⟨a, b, c, d, e, f, g, i, j, k, l, y, n, o, p, q, rfl⟩ := sixteen h
  simp only [mixL, colL, at_, List.range, List.range.loop, List.map, List.getD_cons_zero, List.getD_cons_succ, Nat.reduceAdd, Nat.reduceDiv, Nat.reduceMul, Nat.reduceMod, m_m]
theorem mix3 {s : Blk} (h : s.length = 16) : mixL (mixL (mixL s)) = unmixL s := by
  rw [mix_mix h]
  obtain ⟨a, b, c, d, e, f, g, i, j, k, l, y, n, o, p, q, rfl⟩ := sixteen h
  simp only [mixL, unmixL, colL, at_, List.range, List.range.loop, List.map, List.getD_cons_zero, List.getD_cons_succ, Nat.reduceAdd, Nat.reduceDiv, Nat.reduceMul, Nat.reduceMod, m2_m]
theorem mix4 {s : Blk} (h : s.length = 16) : mixL (mixL (mixL (mixL s))) = s := by
  rw [mix_mix (s := mixL (mixL s)) (colL_length _ _), mix_mix h]
  obtain ⟨a, b, c, d, e, f, g, i, j, k, l, y, n, o, p, q, rfl⟩ := sixteen h
  simp only [mixL, colL, at_, List.range, List.range.loop, List.map, List.getD_cons_zero, List.getD_cons_succ, Nat.reduceAdd, Nat.reduceDiv, Nat.reduceMul, Nat.reduceMod, m2_m2]
theorem unmix_mix {s : Blk} (h : s.length = 16) : unmixL (mixL s) = s := by rw [← mix3 (s := mixL s) (colL_length _ _), mix4 h]
theorem mix_unmix {s : Blk} (h : s.length = 16) : mixL (unmixL s) = s := by rw [← mix3 h, mix4 h]
def lay (a b : Blk) : Blk := List.zipWith (· ^^^ ·) a b
theorem lay_length {a b : Blk} (ha : a.length = 16) (hb : b.length = 16) : (lay a b).length = 16 := by simp [lay, ha, hb]
theorem lay_lay : ∀ {a b : Blk}, a.length = b.length → lay (lay a b) b = a
  | [], [], _ => rfl
  | x :: a, y :: b, h => by
    show (x ^^^ y ^^^ y) :: lay (lay a b) b = x :: a
    rw [lay_lay (by simpa using h), xcr8]
def turnL (f : UInt8 → UInt8) (s : Blk) : Blk := (List.range 16).map fun i => f (at_ s ((i + 4 * (i % 4)) % 16))
def unturnL (f : UInt8 → UInt8) (s : Blk) : Blk := (List.range 16).map fun i => f (at_ s ((i + 12 * (i % 4)) % 16))
theorem turnL_length (f s) : (turnL f s).length = 16 := by simp [turnL]
theorem unturnL_length (f s) : (unturnL f s).length = 16 := by simp [unturnL]
theorem unturn_turn {s : Blk} (h : s.length = 16) : unturnL us (turnL sb s) = s := by
  obtain ⟨a, b, c, d, e, f, g, i, j, k, l, y, n, o, p, q, rfl⟩ := sixteen h
  simp only [turnL, unturnL, at_, List.range, List.range.loop, List.map, List.getD_cons_zero, List.getD_cons_succ, Nat.reduceAdd, Nat.reduceDiv, Nat.reduceMul, Nat.reduceMod, us_sb]
theorem turn_unturn {s : Blk} (h : s.length = 16) : turnL sb (unturnL us s) = s := by
  obtain ⟨a, b, c, d, e, f, g, i, j, k, l, y, n, o, p, q, rfl⟩ := sixteen h
  simp only [turnL, unturnL, at_, List.range, List.range.loop, List.map, List.getD_cons_zero, List.getD_cons_succ, Nat.reduceAdd, Nat.reduceDiv, Nat.reduceMul, Nat.reduceMod, sb_us]

/-! ### the rounds: R r is round key r, n the last one -/
def rkey (R : List Blk) (i : Nat) : Blk := R.getD i []
def encR (R : List Blk) (n : Nat) : Nat → Blk → Blk
  | 0, s => lay s (rkey R 0)
  | i+1, s => lay (if i + 1 < n then mixL (turnL sb (encR R n i s)) else turnL sb (encR R n i s)) (rkey R (i+1))
def decR (R : List Blk) (n : Nat) : Nat → Blk → Blk
  | 0, s => lay s (rkey R 0)
  | i+1, s => decR R n i (unturnL us (if i + 1 < n then unmixL (lay s (rkey R (i+1))) else lay s (rkey R (i+1))))
def KeysOk (R : List Blk) : Prop := ∀ r ∈ R, r.length = 16
theorem KeysOk.at_ {R : List Blk} (h : KeysOk R) {i : Nat} (hi : i < R.length) : (rkey R i).length = 16 := by
  unfold rkey; rw [List.getD_eq_getElem?_getD, List.getElem?_eq_getElem hi]; exact h _ (List.getElem_mem hi)
theorem encR_length {R : List Blk} (h : KeysOk R) (n : Nat) : ∀ i s, i < R.length → s.length = 16 → (encR R n i s).length = 16
  | 0, s, hi, hs => lay_length hs (h.at_ hi)
  | i+1, s, hi, hs => by
    refine lay_length ?_ (h.at_ hi)
    split
    · exact colL_length _ _
    · exact turnL_length _ _
theorem decR_length {R : List Blk} (h : KeysOk R) (n : Nat) : ∀ i s, i < R.length → s.length = 16 → (decR R n i s).length = 16
  | 0, s, hi, hs => lay_length hs (h.at_ hi)
  | i+1, s, hi, hs => decR_length h n i _ (by omega) (unturnL_length _ _)
theorem dec_enc {R : List Blk} (h : KeysOk R) (n : Nat) : ∀ i s, i < R.length → s.length = 16 → decR R n i (encR R n i s) = s
  | 0, s, hi, hs => lay_lay (by rw [hs, h.at_ hi])
  | i+1, s, hi, hs => by
    have he := encR_length h n i s (by omega) hs
    have ht := turnL_length sb (encR R n i s)
    show decR R n i (unturnL us (if i + 1 < n then unmixL (lay (lay _ (rkey R (i+1))) (rkey R (i+1))) else lay (lay _ (rkey R (i+1))) (rkey R (i+1)))) = s
    by_cases hin : i + 1 < n
    · rw [if_pos hin, if_pos hin, lay_lay (by rw [h.at_ hi]; exact colL_length _ _), unmix_mix ht, unturn_turn he, dec_enc h n i s (by omega) hs]
    · rw [if_neg hin, if_neg hin, lay_lay (by rw [h.at_ hi, ht]), unturn_turn he, dec_enc h n i s (by omega) hs]
theorem enc_dec {R : List Blk} (h : KeysOk R) (n : Nat) : ∀ i s, i < R.length → s.length = 16 → encR R n i (decR R n i s) = s
  | 0, s, hi, hs => lay_lay (by rw [hs, h.at_ hi])
  | i+1, s, hi, hs => by
    have hl := lay_length hs (h.at_ hi)
    have hll := lay_lay (a := s) (b := rkey R (i+1)) (by rw [h.at_ hi, hs])
    show lay (if i + 1 < n then mixL (turnL sb (encR R n i (decR R n i _))) else turnL sb (encR R n i (decR R n i _))) (rkey R (i+1)) = s
    rw [enc_dec h n i _ (by omega) (unturnL_length _ _)]
    by_cases hin : i + 1 < n
    · rw [if_pos hin, if_pos hin, turn_unturn (s := unmixL (lay s (rkey R (i+1)))) (colL_length _ _), mix_unmix hl, hll]
    · rw [if_neg hin, if_neg hin, turn_unturn hl, hll]

/-! ### the round keys: words of four bytes -/
def rc (j : Nat) : UInt8 := UInt8.ofNat (gpow 2 j)
def turnW (n i : Nat) (t : Blk) : Blk :=
  if i % n = 0 then [sb (at_ t 1) ^^^ rc (i / n - 1), sb (at_ t 2), sb (at_ t 3), sb (at_ t 0)] else if n = 8 ∧ i % 8 = 4 then [sb (at_ t 0), sb (at_ t 1), sb (at_ t 2), sb (at_ t 3)] else t
def nextW (n : Nat) (ws : List Blk) : Blk := lay (turnW n ws.length (rkey ws (ws.length - 1))) (rkey ws (ws.length - n))
def words (n : Nat) (key : Blk) : Nat → List Blk
  | 0 => (List.range n).map fun i => (key.drop (4 * i)).take 4
  | k+1 => words n key k ++ [nextW n (words n key k)]
theorem words_length (n : Nat) (key : Blk) : ∀ k, (words n key k).length = n + k
  | 0 => by simp [words]
  | k+1 => by rw [words, List.length_append, words_length n key k]; rfl
def Four (ws : List Blk) : Prop := ∀ t ∈ ws, t.length = 4
theorem Four.at_ {R : List Blk} (h : Four R) {i : Nat} (hi : i < R.length) : (rkey R i).length = 4 := by
  unfold rkey; rw [List.getD_eq_getElem?_getD, List.getElem?_eq_getElem hi]; exact h _ (List.getElem_mem hi)
theorem turnW_length {n i : Nat} {t : Blk} (h : t.length = 4) : (turnW n i t).length = 4 := by unfold turnW; split; rfl; split; rfl; exact h
theorem nextW_length {n : Nat} {ws : List Blk} (h : Four ws) (h0 : 0 < n) (hn : n ≤ ws.length) : (nextW n ws).length = 4 := by
  unfold nextW lay
  rw [List.length_zipWith, turnW_length (h.at_ (by omega)), h.at_ (by omega)]; rfl
theorem words_four {n : Nat} {key : Blk} (hk : key.length = 4 * n) (h0 : 0 < n) : ∀ k, Four (words n key k)
  | 0 => fun t ht => by
    simp only [words, List.mem_map, List.mem_range] at ht
    obtain ⟨i, hi, rfl⟩ := ht
    simp only [List.length_take, List.length_drop]; omega
  | k+1 => fun t ht => by
    rw [words, List.mem_append, List.mem_singleton] at ht
    rcases ht with h | rfl
    · exact words_four hk h0 k t h
    · exact nextW_length (words_four hk h0 k) h0 (by rw [words_length]; omega)
theorem four_flat : ∀ {ws : List Blk}, Four ws → ws.flatten.length = 4 * ws.length
  | [], _ => rfl
  | t :: ws, h => by
    rw [List.flatten_cons, List.length_append, h t (by simp), four_flat (fun x hx => h x (List.mem_cons_of_mem _ hx)), List.length_cons]; omega
theorem four_drop : ∀ {ws : List Blk} (i : Nat), Four ws → ws.flatten.drop (4 * i) = (ws.drop i).flatten
  | ws, 0, _ => by simp
  | [], i+1, _ => by simp
  | t :: ws, i+1, h => by
    have ht := h t (by simp)
    rw [List.flatten_cons, show 4 * (i + 1) = t.length + 4 * i by omega, ← List.drop_drop, List.drop_left, List.drop_succ_cons, four_drop i (fun x hx => h x (List.mem_cons_of_mem _ hx))]
theorem four_take : ∀ {ws : List Blk} (i : Nat), Four ws → ws.flatten.take (4 * i) = (ws.take i).flatten
  | ws, 0, _ => by simp
  | [], i+1, _ => by simp
  | t :: ws, i+1, h => by
    have ht := h t (by simp)
    rw [List.flatten_cons, show 4 * (i + 1) = t.length + 4 * i by omega, List.take_length_add_append, List.take_succ_cons, List.flatten_cons, four_take i (fun x hx => h x (List.mem_cons_of_mem _ hx))]
theorem Four.drop {ws : List Blk} (h : Four ws) (i : Nat) : Four (ws.drop i) := fun t ht => h t (List.mem_of_mem_drop ht)
theorem four_cut {ws : List Blk} (i j : Nat) (h : Four ws) : (ws.flatten.drop (4 * i)).take (4 * j) = ((ws.drop i).take j).flatten := by
  rw [four_drop i h, four_take j (h.drop i)]
theorem words_zero {n : Nat} {key : Blk} (hk : key.length = 4 * n) : (words n key 0).flatten = key := by
  have : ∀ (m : Nat) (l : Blk), l.length = 4 * m → ((List.range m).map fun i => (l.drop (4 * i)).take 4).flatten = l := by
    intro m
    induction m with
    | zero => intro l hl; have := List.eq_nil_of_length_eq_zero (by omega : l.length = 0); subst this; rfl
    | succ m ih =>
      intro l hl
      rw [List.range_succ_eq_map, List.map_cons, List.map_map, List.flatten_cons]
      have h4 := ih (l.drop 4) (by rw [List.length_drop]; omega)
      have e : ((fun i => (l.drop (4 * i)).take 4) ∘ Nat.succ) = fun i => ((l.drop 4).drop (4 * i)).take 4 := by
        funext i; simp only [Function.comp, List.drop_drop]; congr 2; omega
      rw [e, h4]; simp
  exact this n key hk
/-- how many words behind the key's own -/
def more (n : Nat) : Nat := 4 * (n + 7) - n
def rounds (n : Nat) (key : Blk) : List Blk := (List.range (n + 7)).map fun r => (((words n key (more n)).drop (4 * r)).take 4).flatten
theorem rounds_length (n : Nat) (key : Blk) : (rounds n key).length = n + 7 := by simp [rounds]
theorem rounds_ok {n : Nat} {key : Blk} (hk : key.length = 4 * n) (h0 : 0 < n) (hn : n ≤ 8) : KeysOk (rounds n key) := fun r hr => by
  simp only [rounds, List.mem_map, List.mem_range] at hr
  obtain ⟨i, hi, rfl⟩ := hr
  have hF := words_four hk h0 (more n)
  have hm : n + more n = 4 * (n + 7) := by unfold more; omega
  rw [four_flat (fun t ht => hF t (List.mem_of_mem_drop (List.mem_of_mem_take ht))), List.length_take, List.length_drop, words_length, hm]; omega
/-- the cipher -/
def enc (key s : Blk) : Blk := encR (rounds (key.length / 4) key) (key.length / 4 + 6) (key.length / 4 + 6) s
def dec (key s : Blk) : Blk := decR (rounds (key.length / 4) key) (key.length / 4 + 6) (key.length / 4 + 6) s
def KeyOk (key : Blk) : Prop := key.length = 16 ∨ key.length = 32
theorem KeyOk.rounds {key : Blk} (h : KeyOk key) : KeysOk (rounds (key.length / 4) key) := by rcases h with h | h <;> exact rounds_ok (by omega) (by omega) (by omega)
theorem enc_length {key s : Blk} (h : KeyOk key) (hs : s.length = 16) : (enc key s).length = 16 := encR_length h.rounds _ _ _ (by rw [rounds_length]; omega) hs
theorem dec_length {key s : Blk} (h : KeyOk key) (hs : s.length = 16) : (dec key s).length = 16 := decR_length h.rounds _ _ _ (by rw [rounds_length]; omega) hs
theorem dec_of_enc {key s : Blk} (h : KeyOk key) (hs : s.length = 16) : dec key (enc key s) = s := dec_enc h.rounds _ _ _ (by rw [rounds_length]; omega) hs
theorem enc_of_dec {key s : Blk} (h : KeyOk key) (hs : s.length = 16) : enc key (dec key s) = s := enc_dec h.rounds _ _ _ (by rw [rounds_length]; omega) hs
theorem enc_inj {key s t : Blk} (h : KeyOk key) (hs : s.length = 16) (ht : t.length = 16) : enc key s = enc key t ↔ s = t :=
  ⟨fun e => by rw [← dec_of_enc h hs, e, dec_of_enc h ht], fun e => by rw [e]⟩
end Go.Proofs.YtkgnnlglabihkaaGreatDoor.Aes
