/- What the arena's calls that give blocks out do, in plain functions, and what stays true of an arena in which nothing was freed. No condition. -/
import Derived.Test.YtlpklloagaccoaaArena
namespace Go.Proofs.Ytlpklloagaccoaa
open Go.RowKit
set_option linter.unusedVariables false

def updF {α : Type} (f : Nat → α) (k : Nat) (v : α) : Nat → α := fun i => if i = k then v else f i
def updI {α : Type} (f : Int → α) (k : Int) (v : α) : Int → α := fun i => if i = k then v else f i
theorem updF_twice {α : Type} (f : Nat → α) (k : Nat) (a b : α) : updF (updF f k a) k b = updF f k b := by
  funext i; unfold updF; split <;> rfl
theorem mem_seqL {k : Int} {base size n : Nat} : k ∈ seqL base size n ↔ ∃ j, j < n ∧ k = ((base + j * size : Nat) : Int) := by
  simp [seqL, seq0]
  constructor
  · rintro ⟨j, hj, rfl⟩; exact ⟨j, hj, rfl⟩
  · rintro ⟨j, hj, rfl⟩; exact ⟨j, hj, rfl⟩
/-- Blocks that are new. -/
def pageBl (bl : Int → Option Bl) (base size n : Nat) : Int → Option Bl := fun k => if k ∈ seqL base size n then some ⟨size, 0, 0⟩ else bl k
theorem pageBl_zero (bl : Int → Option Bl) (base size : Nat) : pageBl bl base size 0 = bl := by
  funext k; unfold pageBl; rw [if_neg (by rw [mem_seqL]; rintro ⟨j, hj, _⟩; omega)]
theorem pageBl_succ (bl : Int → Option Bl) (base size n : Nat) : pageBl bl base size (n + 1) = updI (pageBl bl base size n) ((base + n * size : Nat) : Int) (some ⟨size, 0, 0⟩) := by
  funext k
  unfold pageBl updI
  rw [seqL_succ]
  by_cases h : k = ((base + n * size : Nat) : Int)
  · rw [if_pos h, if_pos (by simp [h])]
  · rw [if_neg h]
    by_cases h2 : k ∈ seqL base size n
    · rw [if_pos (by simp [h2])]; exact (if_pos h2).symm
    · rw [if_neg (by simp [h2]; intro e; exact h (by rw [e]; simp))]; exact (if_neg h2).symm

/-- One of a class goes out of its row. -/
def firstS (S : ArS) (c : Nat) : ArS := { S with rows := updF S.rows c (popL (S.rows c)), cur := updF S.cur c ((S.cur c).1, (S.cur c).2 + 1) }
/-- A page of a class. -/
def pageS (S : ArS) (c : Nat) : ArS :=
  { S with t := S.t + 1, pg := fun i => decide (i < S.t + 1), R := takeR S.R S.t 1 (c + 1) 1, bl := pageBl S.bl (S.t * 64) (lenN c) (perN c), rows := updF S.rows c (seqL (S.t * 64) (lenN c) (perN c)), cur := updF S.cur c (S.t, 0) }
/-- Pages for a large block. -/
def greatS (S : ArS) (k : Nat) : ArS :=
  { S with t := S.t + k, pg := fun i => decide (i < S.t + k), R := takeR S.R S.t k 6 k, bl := updI S.bl ((S.t * 64 : Nat) : Int) (some ⟨64 * k, 0, 0⟩) }
/-- A block is in use. -/
def finM (m : Nat → Nat) (at_ n size : Nat) : Nat → Nat := fun i => if at_ ≤ i ∧ i < at_ + n then 0 else if at_ + n ≤ i ∧ i < at_ + size then canW i else m i
def finS (S : ArS) (at_ n size : Nat) : ArS := { S with m := finM S.m at_ n size, bl := updI S.bl (at_ : Int) (some ⟨size, n, 1⟩) }
/-- Behind the taking of a block, and which. -/
def tookS (S : ArS) (n : Nat) : Option (ArS × Nat) :=
  if classN n = 5 then (if S.t + (n / 64 + 1) ≤ S.n then some (greatS S (n / 64 + 1), S.t * 64) else none)
  else if (S.cur (classN n)).2 < perN (classN n) then some (firstS S (classN n), (S.cur (classN n)).1 * 64 + (S.cur (classN n)).2 * lenN (classN n))
  else if S.t + 1 ≤ S.n then some (firstS (pageS S (classN n)) (classN n), S.t * 64) else none
def allocS (S : ArS) (n : Nat) : Option (ArS × Nat) := (tookS S n).map fun x => (finS x.1 x.2 n (sizeN n), x.2)

/-- Blocks lie apart. -/
structure ArOk (S : ArS) : Prop where
  tn : S.t ≤ S.n
  nat : ∀ k x, S.bl k = some x → ∃ a : Nat, k = (a : Int) ∧ 64 ≤ a ∧ a + x.size ≤ S.t * 64 ∧ x.asked ≤ x.size ∧ 2 ≤ x.size
  disj : ∀ k k' x x', S.bl k = some x → S.bl k' = some x' → k < k' → k + (x.size : Int) ≤ k'
/-- Nothing was freed. -/
structure Fresh (S : ArS) : Prop where
  ok : ArOk S
  pg : S.pg = fun i => decide (i < S.t)
  t1 : 1 ≤ S.t
  cj : ∀ c, c < 5 → (S.cur c).2 ≤ perN c
  rows : ∀ c, c < 5 → S.rows c = rowAt c (S.cur c).1 (S.cur c).2
  free : ∀ c, c < 5 → ∀ i, (S.cur c).2 ≤ i → i < perN c → S.bl (((S.cur c).1 * 64 + i * lenN c : Nat) : Int) = some ⟨lenN c, 0, 0⟩
theorem mul_step {i j s : Nat} (h : i < j) : i * s + s ≤ j * s := by
  have := Nat.mul_le_mul_right s (show i + 1 ≤ j from h)
  rw [Nat.succ_mul] at this; exact this
theorem ArOk.first {S : ArS} (h : ArOk S) (c : Nat) : ArOk (firstS S c) := ⟨h.tn, h.nat, h.disj⟩
theorem Fresh.first {S : ArS} (h : Fresh S) {c : Nat} (hc : c < 5) (hj : (S.cur c).2 < perN c) : Fresh (firstS S c) := by
  refine ⟨h.ok.first c, h.pg, h.t1, fun d hd => ?_, fun d hd => ?_, fun d hd i h1 h2 => ?_⟩
  · show (updF S.cur c _ d).2 ≤ _
    unfold updF
    split
    · rename_i e; subst e; exact hj
    · exact h.cj d hd
  · show updF S.rows c _ d = rowAt d (updF S.cur c _ d).1 (updF S.cur c _ d).2
    unfold updF
    split
    · rename_i e; subst e
      rw [h.rows d hd]; rfl
    · exact h.rows d hd
  · revert h1
    show (updF S.cur c _ d).2 ≤ i → S.bl (((updF S.cur c _ d).1 * 64 + i * lenN d : Nat) : Int) = _
    unfold updF
    split
    · rename_i e; subst e
      intro h1
      exact h.free d hd i (by simp at h1; omega) h2
    · intro h1; exact h.free d hd i h1 h2
theorem ArOk.page {S : ArS} (h : ArOk S) {c : Nat} (hc : c < 5) (t1 : 1 ≤ S.t) (hn : S.t + 1 ≤ S.n) : ArOk (pageS S c) := by
  have hl := per_len hc
  have hin : ∀ j, j < perN c → S.t * 64 + j * lenN c + lenN c ≤ S.t * 64 + 64 := fun j hj => by have := mul_step (s := lenN c) hj; omega
  refine ⟨hn, fun k x hk => ?_, fun k k' x x' hk hk' hlt => ?_⟩
  · revert hk
    show pageBl S.bl _ _ _ k = some x → ∃ a : Nat, k = (a : Int) ∧ 64 ≤ a ∧ a + x.size ≤ (S.t + 1) * 64 ∧ _
    unfold pageBl
    split
    · rename_i hm
      obtain ⟨j, hj, rfl⟩ := mem_seqL.1 hm
      intro e; cases e
      have := hin j hj
      exact ⟨_, rfl, by omega, by show _ + lenN c ≤ _; omega, Nat.zero_le _, hl.2.2.2.1⟩
    · intro e
      obtain ⟨a, h1, h2, h3, h4⟩ := h.nat k x e
      exact ⟨a, h1, h2, by omega, h4⟩
  · revert hk hk'
    show pageBl S.bl _ _ _ k = some x → pageBl S.bl _ _ _ k' = some x' → _
    unfold pageBl
    split
    · rename_i hm
      obtain ⟨j, hj, rfl⟩ := mem_seqL.1 hm
      intro e; cases e
      split
      · rename_i hm'
        obtain ⟨j', hj', rfl⟩ := mem_seqL.1 hm'
        intro e; cases e
        have h3 : j < j' := by
          rcases Nat.lt_or_ge j j' with h3 | h3
          · exact h3
          · have := Nat.mul_le_mul_right (lenN c) h3; omega
        have := mul_step (s := lenN c) h3
        show _ + ((lenN c : Nat) : Int) ≤ _
        omega
      · intro e
        obtain ⟨a, h1, h2, h3, h4⟩ := h.nat k' x' e
        omega
    · intro e
      obtain ⟨a, h1, h2, h3, h4⟩ := h.nat k x e
      split
      · rename_i hm'
        obtain ⟨j', hj', rfl⟩ := mem_seqL.1 hm'
        intro e'
        omega
      · intro e'; exact h.disj k k' x x' e e' hlt
theorem Fresh.page {S : ArS} (h : Fresh S) {c : Nat} (hc : c < 5) (hn : S.t + 1 ≤ S.n) : Fresh (pageS S c) := by
  have hl := per_len hc
  refine ⟨h.ok.page hc h.t1 hn, rfl, by show 1 ≤ S.t + 1; omega, fun d hd => ?_, fun d hd => ?_, fun d hd i h1 h2 => ?_⟩
  · show (updF S.cur c _ d).2 ≤ _
    unfold updF
    split
    · exact Nat.zero_le _
    · exact h.cj d hd
  · show updF S.rows c _ d = rowAt d (updF S.cur c _ d).1 (updF S.cur c _ d).2
    unfold updF
    split
    · rename_i e; subst e; rfl
    · exact h.rows d hd
  · revert h1
    show (updF S.cur c _ d).2 ≤ i → pageBl S.bl _ _ _ (((updF S.cur c _ d).1 * 64 + i * lenN d : Nat) : Int) = _
    unfold updF
    split
    · rename_i e; subst e
      intro _
      unfold pageBl
      rw [if_pos (mem_seqL.2 ⟨i, h2, rfl⟩)]
    · intro h1
      have hf := h.free d hd i h1 h2
      unfold pageBl
      rw [if_neg ?_]
      · exact hf
      · intro hm
        obtain ⟨j, hj, e⟩ := mem_seqL.1 hm
        obtain ⟨a, e1, e2, e3, e4⟩ := h.ok.nat _ _ hf
        omega
theorem ArOk.great {S : ArS} (h : ArOk S) {k : Nat} (t1 : 1 ≤ S.t) (k1 : 1 ≤ k) (hn : S.t + k ≤ S.n) : ArOk (greatS S k) := by
  refine ⟨hn, fun a x hk => ?_, fun a a' x x' hk hk' hlt => ?_⟩
  · revert hk
    show updI S.bl _ _ a = some x → ∃ b : Nat, a = (b : Int) ∧ 64 ≤ b ∧ b + x.size ≤ (S.t + k) * 64 ∧ _
    unfold updI
    split
    · rename_i e; subst e
      intro e; cases e
      exact ⟨_, rfl, by omega, by show _ + 64 * k ≤ _; omega, Nat.zero_le _, by show 2 ≤ 64 * k; omega⟩
    · intro e
      obtain ⟨b, h1, h2, h3, h4⟩ := h.nat a x e
      exact ⟨b, h1, h2, by omega, h4⟩
  · revert hk hk'
    show updI S.bl _ _ a = some x → updI S.bl _ _ a' = some x' → _
    unfold updI
    split
    · rename_i e; subst e
      intro e; cases e
      split
      · omega
      · intro e
        obtain ⟨b, h1, h2, h3, h4⟩ := h.nat a' x' e
        omega
    · intro e
      obtain ⟨b, h1, h2, h3, h4⟩ := h.nat a x e
      split
      · rename_i e'; subst e'
        intro _; omega
      · intro e'; exact h.disj a a' x x' e e' hlt
theorem Fresh.great {S : ArS} (h : Fresh S) {k : Nat} (k1 : 1 ≤ k) (hn : S.t + k ≤ S.n) : Fresh (greatS S k) := by
  refine ⟨h.ok.great h.t1 k1 hn, rfl, by show 1 ≤ S.t + k; have := h.t1; omega, h.cj, h.rows, fun d hd i h1 h2 => ?_⟩
  have hf := h.free d hd i h1 h2
  show updI S.bl _ _ _ = _
  unfold updI
  rw [if_neg ?_]
  · exact hf
  · intro e
    obtain ⟨a, e1, e2, e3, e4⟩ := h.ok.nat _ _ hf
    have e5 : ((S.cur d).1 * 64 + i * lenN d) = a := by exact Int.ofNat.inj e1
    have e6 : ((S.cur d).1 * 64 + i * lenN d) = S.t * 64 := by exact Int.ofNat.inj e
    omega
/-- In no row that is left. -/
def Gone (S : ArS) (a : Nat) : Prop := ∀ c, c < 5 → ∀ i, (S.cur c).2 ≤ i → i < perN c → (S.cur c).1 * 64 + i * lenN c ≠ a
theorem ArOk.fin {S : ArS} (h : ArOk S) {a n : Nat} {x : Bl} (hb : S.bl (a : Int) = some x) (hn : n ≤ x.size) : ArOk (finS S a n x.size) := by
  refine ⟨h.tn, fun k y hk => ?_, fun k k' y y' hk hk' hlt => ?_⟩
  · revert hk
    show updI S.bl _ _ k = some y → ∃ b : Nat, k = (b : Int) ∧ 64 ≤ b ∧ b + y.size ≤ S.t * 64 ∧ _
    unfold updI
    split
    · rename_i e; subst e
      intro e; cases e
      obtain ⟨b, h1, h2, h3, h4, h5⟩ := h.nat _ _ hb
      exact ⟨b, h1, h2, h3, hn, h5⟩
    · exact h.nat k y
  · revert hk hk'
    show updI S.bl _ _ k = some y → updI S.bl _ _ k' = some y' → _
    unfold updI
    split
    · rename_i e; subst e
      intro e; cases e
      split
      · omega
      · intro e; exact h.disj _ _ x _ hb e hlt
    · intro e
      split
      · rename_i e'; subst e'
        intro _; exact h.disj _ _ _ x e hb hlt
      · intro e'; exact h.disj _ _ _ _ e e' hlt
theorem Fresh.fin {S : ArS} (h : Fresh S) {a n : Nat} {x : Bl} (hb : S.bl (a : Int) = some x) (hn : n ≤ x.size) (hg : Gone S a) : Fresh (finS S a n x.size) := by
  refine ⟨h.ok.fin hb hn, h.pg, h.t1, h.cj, h.rows, fun d hd i h1 h2 => ?_⟩
  have hf := h.free d hd i h1 h2
  show updI S.bl _ _ _ = _
  unfold updI
  rw [if_neg ?_]
  · exact hf
  · intro e
    exact hg d hd i h1 h2 (Int.ofNat.inj e)
/-- Distinct blocks of two rows. -/
theorem Fresh.gone_first {S : ArS} (h : Fresh S) {c : Nat} (hc : c < 5) (hj : (S.cur c).2 < perN c) : Gone (firstS S c) ((S.cur c).1 * 64 + (S.cur c).2 * lenN c) := by
  intro d hd i
  show (updF S.cur c _ d).2 ≤ i → _ → (updF S.cur c _ d).1 * 64 + i * lenN d ≠ _
  unfold updF
  split
  · rename_i e; subst e
    intro h1 h2 e
    have h1' : (S.cur d).2 + 1 ≤ i := h1
    have := mul_step (s := lenN d) (show (S.cur d).2 < i from h1')
    have := (per_len hd).2.2.2.1
    simp only at e
    omega
  · rename_i hne
    intro h1 h2 e
    have f1 := h.free c hc _ (Nat.le_refl _) hj
    have f2 := h.free d hd i h1 h2
    rw [e, f1] at f2
    simp only [Option.some.injEq, Bl.mk.injEq, and_true] at f2
    have H : ∀ c, c < 5 → ∀ d, d < 5 → lenN c = lenN d → c = d := by decide
    exact hne (H c hc d hd f2).symm
theorem Fresh.gone_great {S : ArS} (h : Fresh S) (k : Nat) : Gone (greatS S k) (S.t * 64) := by
  intro d hd i h1 h2 e
  have hf := h.free d hd i h1 h2
  obtain ⟨a, e1, e2, e3, e4⟩ := h.ok.nat _ _ hf
  have e5 : ((S.cur d).1 * 64 + i * lenN d) = a := Int.ofNat.inj e1
  have e' : ((S.cur d).1 * 64 + i * lenN d) = S.t * 64 := e
  have e6 := e4.2
  omega
end Go.Proofs.Ytlpklloagaccoaa
