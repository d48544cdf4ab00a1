/- Where the blocks of one class lie that are given out one behind the other by a new arena. No condition. -/
import Derived.Test.YtlpklloagaccoaaGreatSpaceW
namespace Go.Proofs.YtlpklloagaccoaaGreat
open Go.RowKit
set_option linter.unusedVariables false

/-- Where the k-th block of a class lies. -/
def hN (c k : Nat) : Nat := 64 + k * lenN c
/-- What is left behind k blocks of a class. -/
structure AlN (L : Al) (n c k : Nat) : Prop where
  n : L.n = n
  ok : L.ok = true
  t : L.t = 1 + (k + perN c - 1) / perN c
  full : k % perN c = 0 → (L.cur c).2 = perN c
  part : k % perN c ≠ 0 → L.cur c = (1 + k / perN c, k % perN c)
theorem AlN.new (n : Nat) {c : Nat} (hc : c < 5) : AlN (newAl n) n c 0 := by
  have hl := per_len hc
  refine ⟨rfl, rfl, ?_, fun _ => rfl, fun h => absurd (Nat.zero_mod _) h⟩
  show 1 = 1 + (0 + perN c - 1) / perN c
  rw [Nat.div_eq_of_lt (by omega)]
theorem AlN.step {L : Al} {n c k m : Nat} (h : AlN L n c k) (hc : c < 5) (hm : classN m = c) (hr : 2 + k / perN c ≤ n) : ∃ L', tookL L m = some (L', hN c k) ∧ AlN L' n c (k + 1) := by
  suffices H : ∃ L', tookL L m = some (L', hN c k) ∧ L'.n = n ∧ L'.ok = true ∧ L'.t = 1 + (k + 1 + perN c - 1) / perN c ∧ ((k + 1) % perN c = 0 → (L'.cur c).2 = perN c) ∧ ((k + 1) % perN c ≠ 0 → L'.cur c = (1 + (k + 1) / perN c, (k + 1) % perN c)) by
    obtain ⟨L', h1, h2, h3, h4, h5, h6⟩ := H
    exact ⟨L', h1, h2, h3, h4, h5, h6⟩
  obtain ⟨h1, h2, h3, h4, h5⟩ := h
  have h55 : classN m ≠ 5 := by omega
  unfold tookL hN
  rw [if_neg h55, hm]
  have hcases : (perN c = 32 ∧ lenN c = 2) ∨ (perN c = 16 ∧ lenN c = 4) ∨ (perN c = 8 ∧ lenN c = 8) ∨ (perN c = 4 ∧ lenN c = 16) ∨ (perN c = 2 ∧ lenN c = 32) := by
    rcases cls_cases hc with rfl | rfl | rfl | rfl | rfl
    · exact .inl ⟨rfl, rfl⟩
    · exact .inr (.inl ⟨rfl, rfl⟩)
    · exact .inr (.inr (.inl ⟨rfl, rfl⟩))
    · exact .inr (.inr (.inr (.inl ⟨rfl, rfl⟩)))
    · exact .inr (.inr (.inr (.inr ⟨rfl, rfl⟩)))
  clear hm h55
  generalize perN c = per at *
  generalize lenN c = len at *
  by_cases hk : k % per = 0
  · have h6 := h4 hk
    rw [if_neg (by rw [h6]; omega), if_pos (by rw [h1, h3]; rcases hcases with ⟨rfl, _⟩ | ⟨rfl, _⟩ | ⟨rfl, _⟩ | ⟨rfl, _⟩ | ⟨rfl, _⟩ <;> omega)]
    refine ⟨_, congrArg some (Prod.ext rfl ?_), h1, h2, ?_, fun h => ?_, fun h => ?_⟩
    · show L.t * 64 = 64 + k * len
      rw [h3]; rcases hcases with ⟨rfl, rfl⟩ | ⟨rfl, rfl⟩ | ⟨rfl, rfl⟩ | ⟨rfl, rfl⟩ | ⟨rfl, rfl⟩ <;> omega
    · show L.t + 1 = 1 + (k + 1 + per - 1) / per
      rw [h3]; rcases hcases with ⟨rfl, rfl⟩ | ⟨rfl, rfl⟩ | ⟨rfl, rfl⟩ | ⟨rfl, rfl⟩ | ⟨rfl, rfl⟩ <;> omega
    · exfalso
      rcases hcases with ⟨rfl, rfl⟩ | ⟨rfl, rfl⟩ | ⟨rfl, rfl⟩ | ⟨rfl, rfl⟩ | ⟨rfl, rfl⟩ <;> omega
    · show updF L.cur c (L.t, 1) c = _
      unfold updF
      rw [if_pos rfl, h3]
      refine Prod.ext ?_ ?_
      · show 1 + (k + per - 1) / per = 1 + (k + 1) / per
        rcases hcases with ⟨rfl, rfl⟩ | ⟨rfl, rfl⟩ | ⟨rfl, rfl⟩ | ⟨rfl, rfl⟩ | ⟨rfl, rfl⟩ <;> omega
      · show 1 = (k + 1) % per
        rcases hcases with ⟨rfl, rfl⟩ | ⟨rfl, rfl⟩ | ⟨rfl, rfl⟩ | ⟨rfl, rfl⟩ | ⟨rfl, rfl⟩ <;> omega
  · have h6 := h5 hk
    rw [if_pos (by rw [h6]; exact Nat.mod_lt _ (by rcases hcases with ⟨rfl, _⟩ | ⟨rfl, _⟩ | ⟨rfl, _⟩ | ⟨rfl, _⟩ | ⟨rfl, _⟩ <;> omega))]
    refine ⟨_, congrArg some (Prod.ext rfl ?_), h1, h2, ?_, fun h => ?_, fun h => ?_⟩
    · show (L.cur c).1 * 64 + (L.cur c).2 * len = 64 + k * len
      rw [h6]
      show (1 + k / per) * 64 + k % per * len = 64 + k * len
      rcases hcases with ⟨rfl, rfl⟩ | ⟨rfl, rfl⟩ | ⟨rfl, rfl⟩ | ⟨rfl, rfl⟩ | ⟨rfl, rfl⟩ <;> omega
    · show L.t = 1 + (k + 1 + per - 1) / per
      rw [h3]; rcases hcases with ⟨rfl, rfl⟩ | ⟨rfl, rfl⟩ | ⟨rfl, rfl⟩ | ⟨rfl, rfl⟩ | ⟨rfl, rfl⟩ <;> omega
    · show (updF L.cur c ((L.cur c).1, (L.cur c).2 + 1) c).2 = per
      unfold updF
      rw [if_pos rfl, h6]
      show k % per + 1 = per
      rcases hcases with ⟨rfl, rfl⟩ | ⟨rfl, rfl⟩ | ⟨rfl, rfl⟩ | ⟨rfl, rfl⟩ | ⟨rfl, rfl⟩ <;> omega
    · show updF L.cur c ((L.cur c).1, (L.cur c).2 + 1) c = _
      unfold updF
      rw [if_pos rfl, h6]
      refine Prod.ext ?_ ?_
      · show 1 + k / per = 1 + (k + 1) / per
        rcases hcases with ⟨rfl, rfl⟩ | ⟨rfl, rfl⟩ | ⟨rfl, rfl⟩ | ⟨rfl, rfl⟩ | ⟨rfl, rfl⟩ <;> omega
      · show k % per + 1 = (k + 1) % per
        rcases hcases with ⟨rfl, rfl⟩ | ⟨rfl, rfl⟩ | ⟨rfl, rfl⟩ | ⟨rfl, rfl⟩ | ⟨rfl, rfl⟩ <;> omega
end Go.Proofs.YtlpklloagaccoaaGreat
