/- Blocks that are given out, in plain words: they are new, and what is in use stays. Condition: nothing was freed. -/
import Derived.Test.YtlpklloagaccoaaObj
namespace Go.Proofs.Ytlpklloagaccoaa
open Go.RowKit
set_option linter.unusedVariables false

/-- Behind the taking. -/
structure Took (S T : ArS) (a n : Nat) : Prop where
  fresh : Fresh T
  n_ : T.n = S.n
  m : T.m = S.m
  t0 : S.t ≤ T.t
  t1 : T.t ≤ S.t + (n / 64 + 1)
  bl : T.bl (a : Int) = some ⟨sizeN n, 0, 0⟩
  gone : Gone T a
  keep : ∀ k y, y.state = 1 → (T.bl k = some y ↔ S.bl k = some y)
theorem Fresh.none {S : ArS} (h : Fresh S) {c : Nat} (hc : c < 5) {k : Int} {y : Bl} (hy : S.bl k = some y) : k ∉ seqL (S.t * 64) (lenN c) (perN c) := by
  intro hm
  obtain ⟨j, hj, e⟩ := mem_seqL.1 hm
  obtain ⟨a, e1, e2, e3, e4, e5⟩ := h.ok.nat _ _ hy
  omega
theorem tookS_spec {S : ArS} (h : Fresh S) {n : Nat} {T : ArS} {a : Nat} (e : tookS S n = some (T, a)) : Took S T a n := by
  unfold tookS at e
  have hcl := class_le n
  by_cases h5 : classN n = 5
  · obtain ⟨hs, h32⟩ := size_large h5
    rw [if_pos h5] at e
    by_cases hf : S.t + (n / 64 + 1) ≤ S.n
    · rw [if_pos hf] at e
      cases e
      refine ⟨h.great (by omega) hf, rfl, rfl, by show S.t ≤ S.t + _; omega, by show S.t + _ ≤ _; omega, ?_, h.gone_great _, fun k y hy => ?_⟩
      · show updI S.bl _ _ _ = _
        unfold updI
        rw [if_pos rfl, hs]
      · show updI S.bl _ _ k = some y ↔ _
        unfold updI
        split
        · rename_i e; subst e
          constructor
          · intro e; cases e; cases hy
          · intro e
            obtain ⟨a, e1, e2, e3, e4, e5⟩ := h.ok.nat _ _ e
            omega
        · exact Iff.rfl
    · rw [if_neg hf] at e; cases e
  · rw [if_neg h5] at e
    have hc : classN n < 5 := by omega
    obtain ⟨hs, hn⟩ := size_small hc
    by_cases hj : (S.cur (classN n)).2 < perN (classN n)
    · rw [if_pos hj] at e
      cases e
      exact ⟨h.first hc hj, rfl, rfl, Nat.le_refl _, by show S.t ≤ _; omega, by
        rw [hs]; exact h.free _ hc _ (Nat.le_refl _) hj, h.gone_first hc hj, fun k y hy => Iff.rfl⟩
    · rw [if_neg hj] at e
      by_cases hf : S.t + 1 ≤ S.n
      · rw [if_pos hf] at e
        cases e
        have hP := h.page hc hf
        have hcu : (pageS S (classN n)).cur (classN n) = (S.t, 0) := by show updF S.cur _ _ _ = _; unfold updF; rw [if_pos rfl]
        have hj2 : ((pageS S (classN n)).cur (classN n)).2 < perN (classN n) := by rw [hcu]; have := (per_len hc).2.1; show 0 < _; omega
        have hg := hP.gone_first hc hj2
        have hb := hP.free _ hc _ (Nat.le_refl _) hj2
        rw [hcu] at hg hb
        simp only [Nat.zero_mul, Nat.add_zero] at hg hb
        refine ⟨hP.first hc hj2, rfl, rfl, by show S.t ≤ S.t + 1; omega, by show S.t + 1 ≤ _; omega, by rw [hs]; exact hb, hg, fun k y hy => ?_⟩
        show pageBl S.bl _ _ _ k = some y ↔ _
        unfold pageBl
        split
        · rename_i hm
          constructor
          · intro e; cases e; cases hy
          · intro e; exact absurd hm (h.none hc e)
        · exact Iff.rfl
      · rw [if_neg hf] at e; cases e
/-- Behind the giving out. -/
structure Given_ (S T : ArS) (a n : Nat) : Prop where
  fresh : Fresh T
  n_ : T.n = S.n
  m : T.m = finM S.m a n (sizeN n)
  t0 : S.t ≤ T.t
  t1 : T.t ≤ S.t + (n / 64 + 1)
  bl : T.bl (a : Int) = some ⟨sizeN n, n, 1⟩
  keep : ∀ k y, k ≠ (a : Int) → y.state = 1 → (T.bl k = some y ↔ S.bl k = some y)
  new : ∀ y, y.state = 1 → S.bl (a : Int) ≠ some y
theorem size_ge (n : Nat) : n ≤ sizeN n := by
  have := class_le n
  by_cases h : classN n = 5
  · have := size_large h; omega
  · have := size_small (n := n) (by omega); omega
theorem allocS_spec {S : ArS} (h : Fresh S) {n : Nat} {T : ArS} {a : Nat} (e : allocS S n = some (T, a)) : Given_ S T a n := by
  unfold allocS at e
  cases ht : tookS S n with
  | none => rw [ht] at e; cases e
  | some x =>
    obtain ⟨T0, a0⟩ := x
    rw [ht] at e
    simp only [Option.map_some, Option.some.injEq, Prod.mk.injEq] at e
    obtain ⟨rfl, rfl⟩ := e
    have K := tookS_spec h ht
    refine ⟨K.fresh.fin K.bl (size_ge n) K.gone, K.n_, by show finM T0.m _ _ _ = _; rw [K.m], K.t0, K.t1, ?_, fun k y hk hy => ?_, fun y hy he => ?_⟩
    · show updI T0.bl _ _ _ = _
      unfold updI
      rw [if_pos rfl]
    · show updI T0.bl _ _ k = some y ↔ _
      unfold updI
      rw [if_neg hk]
      exact K.keep k y hy
    · have := (K.keep _ y hy).2 he
      rw [K.bl] at this
      cases this
      cases hy
/-- There is room while pages are left. -/
theorem allocS_room {S : ArS} (n : Nat) (h : S.t + (n / 64 + 1) ≤ S.n) : ∃ T a, allocS S n = some (T, a) := by
  unfold allocS tookS
  by_cases h5 : classN n = 5
  · rw [if_pos h5, if_pos h]; exact ⟨_, _, rfl⟩
  · rw [if_neg h5]
    by_cases hj : (S.cur (classN n)).2 < perN (classN n)
    · rw [if_pos hj]; exact ⟨_, _, rfl⟩
    · rw [if_neg hj, if_pos (by omega)]; exact ⟨_, _, rfl⟩
theorem wordsN_pos (c r : Nat) : 1 ≤ wordsN c r := by unfold wordsN; omega
theorem getv_zero (a n : Nat) : getv 0 a n = 0 := by unfold getv; simp
/-- Behind the making of an object. -/
structure MadeOb (S T : SpS) (a kind cells raw : Nat) : Prop where
  ok : SpOk T
  fresh : Fresh T.ar
  n_ : T.ar.n = S.ar.n
  t0 : S.ar.t ≤ T.ar.t
  t1 : T.ar.t ≤ S.ar.t + (wordsN cells raw / 64 + 1)
  ob : T.ob = updI S.ob (a : Int) (some (newOb kind cells raw))
  new : S.ob (a : Int) = none
  lo : 64 ≤ a
  hi : a + wordsN cells raw ≤ S.ar.n * 64
theorem makeS_spec {S : SpS} (h : SpOk S) (hf : Fresh S.ar) {kind cells raw : Nat} (hk : 1 ≤ kind ∧ kind ≤ 8) (hc : cells ≤ 4000) (hr : raw ≤ 4000) {T : SpS} {a : Nat} (e : makeS S kind cells raw = some (T, a)) : MadeOb S T a kind cells raw := by
  unfold makeS at e
  cases ht : allocS S.ar (wordsN cells raw) with
  | none => rw [ht] at e; cases e
  | some x =>
    obtain ⟨T0, a0⟩ := x
    rw [ht] at e
    simp only [Option.map_some, Option.some.injEq, Prod.mk.injEq] at e
    obtain ⟨rfl, rfl⟩ := e
    have G := allocS_spec hf ht
    have hnew : S.ob (a0 : Int) = none := by
      cases hx : S.ob (a0 : Int) with
      | none => rfl
      | some x =>
        obtain ⟨a1, sz, e1, e2, e3⟩ := h.loc _ _ hx
        exact absurd e2 (G.new _ rfl)
    obtain ⟨b, e1, e2, e3, e4, e5⟩ := G.fresh.ok.nat _ _ G.bl
    simp only at e3 e4 e5
    have hb : a0 = b := by omega
    subst hb
    have htn := G.fresh.ok.tn
    have hn := G.n_
    have hw : wordsN cells raw = 1 + 2 * cells + (raw + 7) / 8 := rfl
    have hM : ∀ i, a0 ≤ i → i < a0 + wordsN cells raw → updN T0.m a0 (hdW kind cells raw 0 0 false false) i = if i = a0 then hdW kind cells raw 0 0 false false else 0 := fun i h1 h2 => by
      unfold updN
      split
      · rfl
      · rw [G.m]; unfold finM; rw [if_pos ⟨h1, h2⟩]
    refine ⟨⟨⟨G.fresh.ok.tn, G.fresh.ok.nat, G.fresh.ok.disj⟩, fun k x hk' => ?_, fun k y hy hs => ?_⟩, ⟨⟨G.fresh.ok.tn, G.fresh.ok.nat, G.fresh.ok.disj⟩, G.fresh.pg, G.fresh.t1, G.fresh.cj, G.fresh.rows, G.fresh.free⟩, G.n_, G.t0, G.t1, rfl, hnew, e2, by omega⟩
    · revert hk'
      show updI S.ob _ _ k = some x → _
      unfold updI
      split
      · rename_i e; subst e
        intro e; cases e
        refine ⟨a0, sizeN (wordsN cells raw), rfl, G.bl, ⟨0, false, by omega, ?_⟩, fun i hi => ?_, fun i hi => ⟨Nat.zero_le _, by unfold in64; show -9223372036854775808 ≤ (0 : Int) ∧ (0 : Int) < _; omega⟩, fun i hi => ?_, fun i hi => (by show 0 < 256; omega), hk, hc, hr, Nat.zero_le _⟩
        · exact (hM a0 (by omega) (by omega)).trans (if_pos rfl)
        · have hi' : i < cells := hi
          constructor
          · exact (hM (a0 + 1 + 2 * i) (by omega) (by omega)).trans (if_neg (by omega))
          · exact ((hM (a0 + 1 + 2 * i + 1) (by omega) (by omega)).trans (if_neg (by omega))).trans (show 0 = wd64 0 by decide)
        · have hi' : i < raw := hi
          have hcc : (newOb kind cells raw).cells = cells := rfl
          have h0 := (hM (a0 + 1 + 2 * cells + i / 8) (by omega) (by omega)).trans (if_neg (by omega))
          show getv (updN T0.m a0 _ (a0 + 1 + 2 * cells + i / 8)) _ 8 = 0
          rw [h0, getv_zero]
      · rename_i hne
        intro e
        obtain ⟨a1, sz, f1, f2, f3⟩ := h.loc _ _ e
        refine ⟨a1, sz, f1, (G.keep _ _ hne rfl).2 f2, f3.congr fun i h1 h2 => ?_⟩
        have hT := (G.keep _ _ hne rfl).2 f2
        obtain ⟨_, _, _, _, g4, _⟩ := G.fresh.ok.nat _ _ hT
        simp only at g4
        have hap : ¬ (a0 ≤ i ∧ i < a0 + sizeN (wordsN cells raw)) := by
          rcases Int.lt_or_gt_of_ne hne with hlt | hlt
          · have := G.fresh.ok.disj _ _ _ _ hT G.bl hlt; simp only at this; omega
          · have := G.fresh.ok.disj _ _ _ _ G.bl hT hlt; simp only at this; omega
        have hsz := size_ge (wordsN cells raw)
        show updN T0.m a0 _ i = _
        unfold updN
        rw [if_neg (by have := wordsN_pos cells raw; omega), G.m]
        unfold finM
        rw [if_neg (by omega), if_neg (by omega)]
    · show ∃ x, updI S.ob _ _ k = some x
      unfold updI
      split
      · exact ⟨_, rfl⟩
      · rename_i hne
        exact h.all k y ((G.keep k y hne hs).1 hy) hs
end Go.Proofs.Ytlpklloagaccoaa
