/- Weak references to one object; calls on them. Condition: twenty at most. -/
import Derived.Test.YtlpklloagaccoaaGreatMake8
import Derived.Test.YtlpklloagaccoaaGreatRing
import Derived.Test.YtlpklloagaccoaaGreatFree
import Derived.Test.YtlpklloagaccoaaGreatLTells
import Derived.Outline
namespace Go.Proofs.YtlpklloagaccoaaGreat
open Go.RowKit
set_option linter.unusedVariables false

/-- One object, and some that refer to it weakly. -/
structure WkU (S : EngS) (x : Int) (ws : List Int) : Prop where
  obx : S.ob x = some (newOb 7 1 0)
  wx : S.weak x = false
  tot : S.tot x = 0
  obs : ∀ j, j < ws.length → ∃ y, S.ob (ws.getD j 0) = some y ∧ y.cells = 1 ∧ y.val 0 = (3, x)
  wk : ∀ j, j < ws.length → S.weak (ws.getD j 0) = true
  pend : S.pend = []
  al : AlN S.L 20 1 (ws.length + 1)
  sm : in64 x
/-- .. and the object is gone, or not. -/
structure WkG (S : EngS) (x : Int) (ws : List Int) (gone : Bool) : Prop where
  obs : ∀ j, j < ws.length → ∃ y, S.ob (ws.getD j 0) = some y ∧ y.cells = 1 ∧ y.val 0 = if gone = true then (0, 0) else (3, x)
theorem WkU.first {L' : Al} {a : Nat} (hA : AlN L' 20 1 1) (ha : a < 262144) : WkU (makeA (newEng 20 100) L' a 7 1 0) (a : Int) [] :=
  ⟨if_pos rfl, rfl, rfl, fun j h => absurd h (Nat.not_lt_zero _), fun j h => absurd h (Nat.not_lt_zero _), rfl, hA, by unfold in64; omega⟩
theorem WkU.more {S : EngS} {x : Int} {ws : List Int} (U : WkU S x ws) {L' : Al} {a : Nat} (hno : S.ob (a : Int) = none) (hA : AlN L' 20 1 (ws.length + 2)) :
    (makeA S L' a 8 1 0).ob (a : Int) = some (newOb 8 1 0) ∧ (makeA S L' a 8 1 0).ob x = some (newOb 7 1 0) ∧ WkU (setA (makeA S L' a 8 1 0) (a : Int) (newOb 8 1 0) 0 3 x) x (ws ++ [(a : Int)]) := by
  have hne : ∀ m y, S.ob m = some y → m ≠ (a : Int) := fun m y h e => by rw [e, hno] at h; cases h
  have hob : ∀ m y, S.ob m = some y → (makeA S L' a 8 1 0).ob m = some y := fun m y h => by
    show updI S.ob (a : Int) _ m = _
    unfold updI
    rw [if_neg (hne m y h)]; exact h
  have hwa : (makeA S L' a 8 1 0).weak (a : Int) = true := by
    show (if 8 = 8 then updS S.weak (a : Int) true else S.weak) (a : Int) = true
    rw [if_pos rfl]; exact if_pos rfl
  have hw : ∀ k, k ≠ (a : Int) → (makeA S L' a 8 1 0).weak k = S.weak k := fun k e => by
    show (if 8 = 8 then updS S.weak (a : Int) true else S.weak) k = _
    rw [if_pos rfl]; exact if_neg e
  have e : setA (makeA S L' a 8 1 0) (a : Int) (newOb 8 1 0) 0 3 x = wrA (makeA S L' a 8 1 0) (a : Int) (newOb 8 1 0) 0 3 x := by
    unfold setA
    rw [if_pos hwa]
  have hl : (ws ++ [(a : Int)]).length = ws.length + 1 := by simp
  have hxa := hne _ _ U.obx
  refine ⟨if_pos rfl, hob _ _ U.obx, ?_⟩
  rw [e]
  have hw2 : ∀ k, k ≠ (a : Int) → (wrA (makeA S L' a 8 1 0) (a : Int) (newOb 8 1 0) 0 3 x).ob k = S.ob k := fun k hk => by
    show updI (updI S.ob (a : Int) _) (a : Int) _ k = _
    unfold updI
    rw [if_neg hk, if_neg hk]
  refine ⟨(hw2 x hxa).trans U.obx, (hw x hxa).trans U.wx, U.tot, fun j hj => ?_, fun j hj => ?_, U.pend, by rw [hl]; exact hA, U.sm⟩
  · by_cases h : j < ws.length
    · rw [getD_append_lt h]
      obtain ⟨y, hy, h1, h2⟩ := U.obs j h
      exact ⟨y, (hw2 _ (hne _ _ hy)).trans hy, h1, h2⟩
    · obtain rfl : j = ws.length := by omega
      rw [getD_append_at]
      exact ⟨setVal (newOb 8 1 0) 0 (3, x), if_pos rfl, rfl, rfl⟩
  · by_cases h : j < ws.length
    · rw [getD_append_lt h]
      obtain ⟨y, hy, _⟩ := U.obs j h
      exact (hw _ (hne _ _ hy)).trans (U.wk j h)
    · obtain rfl : j = ws.length := by omega
      rw [getD_append_at]; exact hwa
theorem WkU.stay {S : EngS} {x : Int} {ws : List Int} (U : WkU S x ws) : WkG S x ws false := ⟨fun j hj => by
  obtain ⟨y, h1, h2, h3⟩ := U.obs j hj
  exact ⟨y, h1, h2, h3⟩⟩
theorem WkU.gone {S : EngS} {x : Int} {ws : List Int} (U : WkU S x ws) : WkG (freeA S x) x ws true := by
  have hr : refsA S x = [] := by rw [refsA_of U.wx U.obx]; exact refsN_none (fun i h => by cases h) _
  have hf : (freeA S x).ob = fun k => if updS S.weak x false k = true then ((gone0 S x).ob k).map (fun y => clrX y x) else (gone0 S x).ob k := by
    unfold freeA
    rw [hr]
    rfl
  refine ⟨fun j hj => ?_⟩
  obtain ⟨y, h1, h2, h3⟩ := U.obs j hj
  have hw := U.wk j hj
  have hne : ws.getD j 0 ≠ x := fun e => by rw [e, U.wx] at hw; cases hw
  rw [hf]
  refine ⟨clrX y x, ?_, h2, ?_⟩
  · show (if updS S.weak x false (ws.getD j 0) = true then ((gone0 S x).ob (ws.getD j 0)).map _ else _) = _
    have : updS S.weak x false (ws.getD j 0) = true := by unfold updS; rw [if_neg hne]; exact hw
    rw [if_pos this]
    have : (gone0 S x).ob (ws.getD j 0) = some y := by
      show updI S.ob x none _ = _
      unfold updI
      rw [if_neg hne]; exact h1
    rw [this]; rfl
  · show (if 0 < y.cells ∧ (y.val 0).1 = 3 ∧ (y.val 0).2 = x then ((0 : Nat), (0 : Int)) else y.val 0) = _
    rw [if_pos ⟨by omega, by rw [h3], by rw [h3]⟩, if_pos rfl]
def WkUAt (o : Own) (w : World) (p : Nat) (x : Int) (ws : List Int) : Prop := ∃ S, EngRep o w 1 p S ∧ WkU S x ws
def WkMAt (o : Own) (w : World) (p : Nat) (x : Int) (ws : List Int) (a : Nat) : Prop := ∃ S L', EngRep o w 1 p (makeA S L' a 8 1 0) ∧ S.ob (a : Int) = none ∧ AlN L' 20 1 (ws.length + 2) ∧ WkU S x ws
def WkGAt (o : Own) (w : World) (p : Nat) (x : Int) (ws : List Int) (gone : Bool) : Prop := ∃ S, EngRep o w 1 p S ∧ WkG S x ws gone
theorem WkUAt.keep {lo hi : Nat} {o o' : Own} {w w' : World} {p : Nat} {x : Int} {ws : List Int} (h : WkUAt o w p x ws) (k : Fr lo hi o o' w w') (hr : 30 ≤ lo ∨ hi ≤ 1) : WkUAt o' w' p x ws :=
  let ⟨S, E, M⟩ := h; ⟨S, E.keep k (by omega), M⟩
theorem WkGAt.keep {lo hi : Nat} {o o' : Own} {w w' : World} {p : Nat} {x : Int} {ws : List Int} {b : Bool} (h : WkGAt o w p x ws b) (k : Fr lo hi o o' w w') (hr : 30 ≤ lo ∨ hi ≤ 1) : WkGAt o' w' p x ws b :=
  let ⟨S, E, M⟩ := h; ⟨S, E.keep k (by omega), M⟩
section
variable {o : Own} {p : Nat} {x : Int} {ws : List Int}
theorem wk_first (w0 w1 : World) (F : Fr 0 0 o o w0 w1) (E : EngRep o w0 1 p (newEng 20 100)) :
    Calls Tryz.prog 66 #[.pointer (some ⟨p, 0, none⟩), .int .i64 7, .int .i64 1, .int .i64 0] w1 fun e w' => ∃ (a : Int) (o' : Own), e = .returned (.tuple #[.int .i64 a, .int .i64 0]) ∧ Fr 1 30 o o' w0 w' ∧ WkUAt o' w' p a [] := by
  obtain ⟨L', hT, hA⟩ := (AlN.new 20 (c := 1) (by omega)).step (m := wordsN 1 0) (by omega) (by decide) (by decide)
  refine (rmake 7 1 0 7 1 0 rfl rfl rfl L' _ w1 F.fresh (E.keep F (.inr (Nat.zero_le _))) rfl (by omega) (by omega) (by omega) hT).mono fun e w' hh => ?_
  obtain ⟨⟨h1, o', F', E'⟩, h2, _, h4, h5, h6⟩ := hh
  exact ⟨_, o', h1, (F.none 1 30).trans F', _, E', WkU.first hA h4⟩
theorem wk_make (w0 w1 : World) (F : Fr 0 0 o o w0 w1) (A : WkUAt o w0 p x ws) (hl : ws.length < 20) :
    Calls Tryz.prog 66 #[.pointer (some ⟨p, 0, none⟩), .int .i64 8, .int .i64 1, .int .i64 0] w1 fun e w' => ∃ (a : Nat) (o' : Own), e = .returned (.tuple #[.int .i64 (a : Nat), .int .i64 0]) ∧ Fr 1 30 o o' w0 w' ∧ WkMAt o' w' p x ws a := by
  obtain ⟨S, E, U⟩ := A
  obtain ⟨L', hT, hA⟩ := U.al.step (m := wordsN 1 0) (by omega) (by decide) (by show 2 + (ws.length + 1) / 16 ≤ 20; omega)
  refine (rmake8 1 0 1 0 rfl rfl L' _ w1 F.fresh (E.keep F (.inr (Nat.zero_le _))) U.al.ok (by omega) (by omega) hT).mono fun e w' hh => ?_
  obtain ⟨⟨h1, o', F', E'⟩, h2, _, h4, h5, h6⟩ := hh
  exact ⟨_, o', h1, (F.none 1 30).trans F', S, L', E', h2, hA, U⟩
theorem wk_set {a : Nat} (w0 w1 : World) (F : Fr 0 0 o o w0 w1) (A : WkMAt o w0 p x ws a) :
    Calls Tryz.prog 68 #[.pointer (some ⟨p, 0, none⟩), .int .i64 (a : Nat), .int .i64 0, .agg #[.int .i64 3, .int .i64 x]] w1 fun e w' => ∃ o', e = .returned (.int .i64 0) ∧ Fr 1 30 o o' w0 w' ∧ WkUAt o' w' p x (ws ++ [(a : Int)]) := by
  obtain ⟨S, L', E, hno, hA, U⟩ := A
  obtain ⟨k1, k2, k3⟩ := U.more hno hA
  refine (rset (a : Int) 0 (newOb 8 1 0) 0 3 x w1 (by omega) F.fresh (E.keep F (.inr (Nat.zero_le _))) k1 rfl (by show 0 < 1; omega) (by omega) U.sm (fun _ => ⟨_, k2⟩) (fun _ e => by cases e)).mono fun e w' hh => ?_
  obtain ⟨h3, o', F', E'⟩ := hh
  exact ⟨o', h3, (F.none 1 30).trans F', _, E', k3⟩
theorem wk_count (w0 w1 : World) (F : Fr 0 0 o o w0 w1) (A : WkUAt o w0 p x ws) :
    Calls Tryz.prog 39 #[.pointer (some ⟨p, 0, none⟩), .int .i64 x] w1 fun e w' => ∃ s, e = .returned (.tuple #[.int .i64 0, .bool s]) ∧ Fr 0 0 o o w0 w' := by
  obtain ⟨S, E, U⟩ := A
  exact (rcount _ _ w1 F.fresh (E.keep F (.inr (Nat.zero_le _))) U.obx).mono fun e w' hh => ⟨S.st x, by rw [hh.1, U.tot], F.below hh.2⟩
theorem wk_free (w0 w1 : World) (F : Fr 0 0 o o w0 w1) (A : WkUAt o w0 p x ws) :
    Calls Tryz.prog 81 #[.pointer (some ⟨p, 0, none⟩), .int .i64 x] w1 fun e w' => ∃ o', e = .returned (.int .i64 0) ∧ Fr 1 30 o o' w0 w' ∧ WkGAt o' w' p x ws true := by
  obtain ⟨S, E, U⟩ := A
  refine (rfree x _ w1 (by omega) F.fresh (E.keep F (.inr (Nat.zero_le _))) U.obx (by rw [U.pend]; simp)).mono fun e w' hh => ?_
  obtain ⟨h1, o', F', E'⟩ := hh
  exact ⟨o', h1, (F.none 1 30).trans F', _, E', U.gone⟩
theorem wk_cell {b : Bool} {i : Nat} (y : Int) (w0 w1 : World) (F : Fr 0 0 o o w0 w1) (A : WkGAt o w0 p x ws b) (hi : i < ws.length) (hy : y = ws.getD i 0) :
    Calls Tryz.prog 30 #[.pointer (some ⟨p, 0, none⟩), .int .i64 y, .int .i64 0] w1 fun e w' => e = .returned (.tuple #[.agg (if b = true then #[.int .i64 0, .int .i64 0] else #[.int .i64 3, .int .i64 x]), .int .i64 0]) ∧ Fr 0 0 o o w0 w' := by
  subst hy
  obtain ⟨S, E, U⟩ := A
  obtain ⟨z, h1, h2, h3⟩ := U.obs i hi
  refine (rcell (ws.getD i 0) 0 w1 F.fresh (E.keep F (.inr (Nat.zero_le _)))).mono fun e w' hh => ⟨?_, F.below hh.2⟩
  have hc : cellA S (ws.getD i 0) (0 : Int) = .tuple #[valV (z.val 0).1 (z.val 0).2, .int .i64 0] := cellA_in (k := 0) h1 rfl (by omega)
  rw [hh.1, hc, h3]
  cases b <;> rfl
end
end Go.Proofs.YtlpklloagaccoaaGreat
