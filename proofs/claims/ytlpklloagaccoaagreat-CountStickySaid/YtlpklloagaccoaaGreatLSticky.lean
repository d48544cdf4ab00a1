/- A count that has reached the limit. Plain Lean. Condition: limit 300 at most. -/
import Derived.Test.YtlpklloagaccoaaGreatLMoves
namespace Go.Proofs.YtlpklloagaccoaaGreat
open Go.RowKit
set_option linter.unusedVariables false

/-- As the store is filled with references to one box. -/
structure StkU (S : EngS) (x b : Int) (L N i : Nat) : Prop where
  lim : S.lim = L
  weak : ∀ k, S.weak k = false
  obx : ∃ z, S.ob x = some z
  obb : ∃ y, S.ob b = some y ∧ y.cells = N ∧ (∀ j, (y.val j).1 = 3 → (y.val j).2 = x) ∧ ∀ j, i ≤ j → (y.val j).1 ≠ 3
  tot : S.tot x = (min i L : Nat)
  st : S.st x = decide (L ≤ i)
  Z : ∀ k, S.Z k = true ↔ k = b ∨ (k = x ∧ i = 0)
  ne : x ≠ b
  small : in64 x
/-- As it is emptied. -/
structure StkD (S : EngS) (x b : Int) (L N : Nat) : Prop where
  weak : ∀ k, S.weak k = false
  obx : ∃ z, S.ob x = some z
  obb : ∃ y, S.ob b = some y ∧ y.cells = N ∧ (∀ j, (y.val j).1 = 3 → (y.val j).2 = x)
  tot : S.tot x = (L : Nat)
  st : S.st x = true
  Z : ∀ k, S.Z k = true ↔ k = b
theorem StkU.down {S : EngS} {x b : Int} {L N : Nat} (h : StkU S x b L N N) (hl : L ≤ N) (h1 : 1 ≤ N) : StkD S x b L N := by
  obtain ⟨y, h2, h3, h4, _⟩ := h.obb
  refine ⟨h.weak, h.obx, ⟨y, h2, h3, h4⟩, by rw [h.tot, Nat.min_eq_right hl], by rw [h.st]; exact decide_eq_true hl, fun k => ?_⟩
  rw [h.Z k]
  constructor
  · rintro (e | ⟨_, e⟩)
    · exact e
    · omega
  · exact Or.inl
theorem StkU.first {L1 L2 : Al} {a b L N : Nat} (h1 : 1 ≤ L) (hn : (makeA (newEng 40 L) L1 a 5 1 0).ob (b : Int) = none) (ha : a < 262144) : StkU (makeA (makeA (newEng 40 L) L1 a 5 1 0) L2 b 4 N 0) (a : Int) (b : Int) L N 0 := by
  have hab : (a : Int) ≠ (b : Int) := by
    intro e
    rw [← e] at hn
    have h2 : updI (newEng 40 L).ob (a : Int) (some (newOb 5 1 0)) (a : Int) = none := hn
    unfold updI at h2
    rw [if_pos rfl] at h2
    cases h2
  refine ⟨rfl, fun _ => rfl, ⟨newOb 5 1 0, ?_⟩, ⟨newOb 4 N 0, if_pos rfl, rfl, fun j h => (by cases h), fun j _ h => (by cases h)⟩, ?_, ?_, fun k => ?_, hab, by unfold in64; omega⟩
  · show updI (updI _ _ _) _ _ _ = _
    unfold updI
    rw [if_neg hab, if_pos rfl]
  · show (0 : Int) = _
    rw [Nat.zero_min]; rfl
  · show false = decide (L ≤ 0)
    exact (decide_eq_false (by omega)).symm
  · show updS (updS (fun _ => false) (a : Int) true) (b : Int) true k = true ↔ _
    unfold updS
    by_cases e : k = (b : Int)
    · rw [if_pos e]; exact ⟨fun _ => .inl e, fun _ => rfl⟩
    · rw [if_neg e]
      by_cases e2 : k = (a : Int)
      · rw [if_pos e2]; exact ⟨fun _ => .inr ⟨e2, rfl⟩, fun _ => rfl⟩
      · rw [if_neg e2]
        constructor
        · intro h; cases h
        · rintro (h | ⟨h, _⟩)
          · exact absurd h e
          · exact absurd h e2
theorem StkU.set {S : EngS} {x b : Int} {L N i : Nat} (h : StkU S x b L N i) (hL : 1 ≤ L) {y : Ob} (hy : S.ob b = some y) (h3 : y.cells = N) (h4 : ∀ j, (y.val j).1 = 3 → (y.val j).2 = x) (h5 : ∀ j, i ≤ j → (y.val j).1 ≠ 3) : StkU (setA S b y i 3 x) x b L N (i + 1) := by
  have e : setA S b y i 3 x = upA (wrA S b y i 3 x) x := by
    unfold setA
    rw [if_neg (by rw [h.weak]; decide), if_neg (h5 i (Nat.le_refl _)), if_pos rfl]
  obtain ⟨z, hz⟩ := h.obx
  have ht := h.tot
  have hs := h.st
  have hl := h.lim
  rw [e]
  refine ⟨hl, h.weak, ⟨z, ?_⟩, ⟨setVal y i (3, x), if_pos rfl, h3, fun j hj => ?_, fun j hj => ?_⟩, ?_, ?_, fun k => ?_, h.ne, h.small⟩
  · show updI S.ob b _ x = _
    unfold updI
    rw [if_neg h.ne]; exact hz
  · have hj' : (if j = i then ((3 : Nat), x) else y.val j).1 = 3 := hj
    show (if j = i then ((3 : Nat), x) else y.val j).2 = x
    by_cases e : j = i
    · rw [if_pos e]
    · rw [if_neg e] at hj' ⊢; exact h4 j hj'
  · show (if j = i then ((3 : Nat), x) else y.val j).1 ≠ 3
    rw [if_neg (by omega)]; exact h5 j (by omega)
  · show updI S.tot x (if S.st x then S.tot x else S.tot x + 1) x = _
    unfold updI
    rw [if_pos rfl, hs, ht]
    by_cases hi : L ≤ i
    · rw [if_pos (decide_eq_true hi)]; omega
    · rw [if_neg (by rw [decide_eq_false hi]; decide)]; omega
  · show updB S.st x (S.st x || decide (S.lim ≤ S.tot x + 1)) x = _
    unfold updB
    rw [if_pos rfl, hs, ht, hl]
    by_cases hi : L ≤ i
    · rw [decide_eq_true hi, decide_eq_true (show L ≤ i + 1 by omega)]; rfl
    · rw [decide_eq_false hi, Bool.false_or]
      by_cases hi2 : L ≤ i + 1
      · rw [decide_eq_true hi2]; exact decide_eq_true (by omega)
      · rw [decide_eq_false hi2]; exact decide_eq_false (by omega)
  · show (if S.tot x = 0 then updS S.Z x false else S.Z) k = true ↔ _
    have hZ := h.Z k
    by_cases h0 : i = 0
    · rw [if_pos (by rw [ht, h0, Nat.zero_min]; rfl)]
      unfold updS
      by_cases ek : k = x
      · rw [if_pos ek]
        constructor
        · intro h; cases h
        · rintro (h' | ⟨_, h'⟩)
          · exact absurd (ek.symm.trans h') h.ne
          · omega
      · rw [if_neg ek, hZ]
        constructor
        · rintro (h' | ⟨h', _⟩)
          · exact .inl h'
          · exact absurd h' ek
        · rintro (h' | ⟨h', _⟩)
          · exact .inl h'
          · exact absurd h' ek
    · rw [if_neg (by rw [ht]; omega), hZ]
      constructor
      · rintro (h' | ⟨_, h'⟩)
        · exact .inl h'
        · omega
      · rintro (h' | ⟨_, h'⟩)
        · exact .inl h'
        · omega
theorem StkD.set {S : EngS} {x b : Int} {L N : Nat} (h : StkD S x b L N) (hL : 1 ≤ L) (hne : x ≠ b) {y : Ob} (hy : S.ob b = some y) (h3 : y.cells = N) (h4 : ∀ j, (y.val j).1 = 3 → (y.val j).2 = x) (i : Nat) : StkD (setA S b y i 0 0) x b L N := by
  obtain ⟨z, hz⟩ := h.obx
  have hob : ∃ y', (setA S b y i 0 0).ob b = some y' ∧ y'.cells = N ∧ ∀ j, (y'.val j).1 = 3 → (y'.val j).2 = x := by
    refine ⟨setVal y i (0, 0), by rw [setA_ob]; exact if_pos rfl, h3, fun j hj => ?_⟩
    have hj' : (if j = i then ((0 : Nat), (0 : Int)) else y.val j).1 = 3 := hj
    show (if j = i then ((0 : Nat), (0 : Int)) else y.val j).2 = x
    by_cases e : j = i
    · rw [if_pos e] at hj'; cases hj'
    · rw [if_neg e] at hj' ⊢; exact h4 j hj'
  have hob2 : ∃ z, (setA S b y i 0 0).ob x = some z := ⟨z, by rw [setA_ob]; unfold updI; rw [if_neg hne]; exact hz⟩
  have hw : ∀ k, (setA S b y i 0 0).weak k = false := fun k => by rw [setA_weak]; exact h.weak k
  have ht := h.tot
  have hs := h.st
  have key : (setA S b y i 0 0).tot x = S.tot x ∧ (setA S b y i 0 0).st x = S.st x ∧ (setA S b y i 0 0).Z = S.Z := by
    unfold setA
    rw [if_neg (by rw [h.weak]; decide)]
    by_cases hv : (y.val i).1 = 3
    · rw [if_pos hv, if_neg (by decide), h4 i hv]
      refine ⟨?_, rfl, ?_⟩
      · show updI S.tot x (if S.st x then S.tot x else _) x = _
        unfold updI
        rw [if_pos rfl, if_pos hs]
      · exact if_neg (fun h' => by have e' : S.st x = false := h'.1; rw [hs] at e'; cases e')
    · rw [if_neg hv, if_neg (by decide)]
      exact ⟨rfl, rfl, rfl⟩
  exact ⟨hw, hob2, hob, key.1.trans ht, key.2.1.trans hs, fun k => by rw [key.2.2]; exact h.Z k⟩
end Go.Proofs.YtlpklloagaccoaaGreat
