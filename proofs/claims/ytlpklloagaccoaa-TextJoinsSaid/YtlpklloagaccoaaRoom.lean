/- The engine's reads in plain words (count.Kind, Cells, Cell, Count). Conditions: the engine is as one that was made. Lists and dicts, what they share (list.Sized, Size, Store). Conditions: the engine is as one that was made; the handle is an object's. Stores that grow (list.Room). Conditions: the engine is as one that was made; what the old store refers to are objects. -/
import Derived.Test.YtlpklloagaccoaaEngSet
import Derived.Outline
namespace Go.Proofs.Ytlpklloagaccoaa
open Go.RowKit
set_option linter.unusedVariables false

def kindA (S : EngS) (h : Int) : Nat := match S.ob h with | some x => x.kind | none => 0
def cellsA (S : EngS) (h : Int) : Nat := match S.ob h with | some x => x.cells | none => 0
def cellA (S : EngS) (h i : Int) : Value :=
  match S.ob h with
  | none => .tuple #[valV 0 0, .int .i64 3]
  | some x => if i < 0 ∨ (x.cells : Int) ≤ i then .tuple #[valV 0 0, .int .i64 6] else .tuple #[valV (x.val i.toNat).1 (x.val i.toNat).2, .int .i64 0]
theorem AbsK.kind {K : EngK} {S : EngS} (A : AbsK K S) (h : Int) : kindOf K h = kindA S h := by
  unfold kindOf kindA
  rw [A.ob h]
  cases K.ob h <;> rfl
theorem AbsK.cells {K : EngK} {S : EngS} (A : AbsK K S) (h : Int) : cellsOf K h = cellsA S h := by
  unfold cellsOf cellsA
  rw [A.ob h]
  cases K.ob h <;> rfl
theorem AbsK.cell {K : EngK} {S : EngS} (A : AbsK K S) (h i : Int) : cellAns K h i = cellA S h i := by
  unfold cellAns cellA
  rw [A.ob h]
  cases K.ob h <;> rfl
theorem EngX.rep {o : Own} {w : World} {r p : Nat} {S : EngS} {ps pt pz pp bw bk : Nat} {v : Value} (E : EngX o w r p S ps pt pz pp bw bk v) : EngRep o w r p S := ⟨_, _, _, _, _, _, _, E⟩
theorem rkind {o : Own} {r p : Nat} {S : EngS} (h : Int) (w : World) (ho : Owned o w) (E : EngRep o w r p S) :
    Calls Try.prog 39 #[.pointer (some ⟨p, 0, none⟩), .int .i64 h] w fun e w' => e = .returned (.int .i64 (kindA S h : Nat)) ∧ Below w.heap.size w w' := by
  obtain ⟨ps, pt, pz, pp, bw, bk, v, K, E, A⟩ := E
  rw [← A.kind h]
  exact ekind_any h w ho ⟨_, _, _, _, _, _, _, E⟩
theorem cellA_in {S : EngS} {h : Int} {x : Ob} (hx : S.ob h = some x) {i : Int} {k : Nat} (hi : i = k) (hk : k < x.cells) : cellA S h i = .tuple #[valV (x.val k).1 (x.val k).2, .int .i64 0] := by
  subst hi
  unfold cellA
  rw [hx]
  show (if (k : Int) < 0 ∨ (x.cells : Int) ≤ (k : Int) then _ else _) = _
  rw [if_neg (by omega)]
  rfl
theorem kindA_of {S : EngS} {h : Int} {x : Ob} (hx : S.ob h = some x) : kindA S h = x.kind := by unfold kindA; rw [hx]
theorem cellsA_of {S : EngS} {h : Int} {x : Ob} (hx : S.ob h = some x) : cellsA S h = x.cells := by unfold cellsA; rw [hx]
/-- Behind a call that gives a number, on the engine in plain words. -/
def EngDo (o : Own) (w : World) (r p : Nat) (S : EngS) (v : Value) (e : Ending) (w' : World) : Prop := e = .returned v ∧ ∃ o', Fr r (r + 29) o o' w w' ∧ EngRep o' w' r p S
end Go.Proofs.Ytlpklloagaccoaa
namespace Go.Proofs.Ytlpklloagaccoaa
open Go.RowKit
set_option linter.unusedVariables false

theorem setA_plain {S : EngS} {h : Int} {x : Ob} {k q : Nat} {n : Int} (hq : q ≠ 3) (hv : (x.val k).1 ≠ 3) : setA S h x k q n = wrA S h x k q n := by
  unfold setA
  rw [if_neg hv, if_neg hq]
  split <;> rfl
end Go.Proofs.Ytlpklloagaccoaa
namespace Go.Proofs.Ytlpklloagaccoaa
open Go.RowKit
set_option linter.unusedVariables false

theorem setA_ob (S : EngS) (h : Int) (x : Ob) (k q : Nat) (n : Int) : (setA S h x k q n).ob = updI S.ob h (some (setVal x k (q, n))) := by
  unfold setA
  split
  · rfl
  · split
    · split <;> rfl
    · split <;> rfl
theorem setA_weak (S : EngS) (h : Int) (x : Ob) (k q : Nat) (n : Int) : (setA S h x k q n).weak = S.weak := by
  unfold setA
  split
  · rfl
  · split
    · split <;> rfl
    · split <;> rfl
theorem setA_L (S : EngS) (h : Int) (x : Ob) (k q : Nat) (n : Int) : (setA S h x k q n).L = S.L := by
  unfold setA
  split
  · rfl
  · split
    · split <;> rfl
    · split <;> rfl
def withVals (x : Ob) (f : Nat → Nat × Int) (i : Nat) : Ob := { x with val := fun j => if j < i then f j else x.val j }
theorem withVals_zero (x : Ob) (f : Nat → Nat × Int) : withVals x f 0 = x := by unfold withVals; simp
theorem withVals_succ (x : Ob) (f : Nat → Nat × Int) (i : Nat) : setVal (withVals x f i) i ((f i).1, (f i).2) = withVals x f (i + 1) := by
  unfold setVal withVals updF
  congr 1
  funext j
  by_cases h : j = i
  · subst h; rw [if_pos rfl, if_pos (by omega)]
  · rw [if_neg h]
    by_cases h2 : j < i
    · rw [if_pos (by omega)]; exact if_pos h2
    · rw [if_neg (by omega)]; exact if_neg h2
/-- Cells are copied into an object. -/
def copyA (S : EngS) (t : Int) (xt : Ob) (f : Nat → Nat × Int) : Nat → EngS
  | 0 => S
  | i + 1 => setA (copyA S t xt f i) t (withVals xt f i) i (f i).1 (f i).2
theorem copyA_ob {S : EngS} {t : Int} {xt : Ob} {f : Nat → Nat × Int} (ht : S.ob t = some xt) : ∀ i, (copyA S t xt f i).ob = updI S.ob t (some (withVals xt f i))
  | 0 => by
    rw [withVals_zero, updI_same _ _ _ ht]; rfl
  | i + 1 => by
    show (setA (copyA S t xt f i) t _ i _ _).ob = _
    rw [setA_ob, copyA_ob ht i, updI_twice, withVals_succ]
theorem copyA_weak (S : EngS) (t : Int) (xt : Ob) (f : Nat → Nat × Int) : ∀ i, (copyA S t xt f i).weak = S.weak
  | 0 => rfl
  | i + 1 => by
    show (setA (copyA S t xt f i) t _ i _ _).weak = _
    rw [setA_weak, copyA_weak S t xt f i]
theorem copyA_L (S : EngS) (t : Int) (xt : Ob) (f : Nat → Nat × Int) : ∀ i, (copyA S t xt f i).L = S.L
  | 0 => rfl
  | i + 1 => by
    show (setA (copyA S t xt f i) t _ i _ _).L = _
    rw [setA_L, copyA_L S t xt f i]
/-- What stands in a list's, or a dict's, object: no store, or one of so many cells. -/
structure StoreAt (S : EngS) (h : Int) (x : Ob) (s : Int) (c : Nat) : Prop where
  ob : S.ob h = some x
  two : x.cells = 2
  none_ : c = 0 → (x.val 1).1 ≠ 3 ∧ s = 0
  some_ : 0 < c → (x.val 1) = (3, s) ∧ ∃ y, S.ob s = some y ∧ y.cells = c
def moreN (c least : Nat) : Nat := if 0 < c then min (2 * c) 4000 else least
theorem rmake {o : Own} {r p : Nat} {S : EngS} (kind cells raw : Nat) (ki ci ri : Int) (e1 : ki = kind) (e2 : ci = cells) (e3 : ri = raw) (L' : Al) (a : Nat) (w : World) (ho : Owned o w) (E : EngRep o w r p S) (hok : S.L.ok = true) (hk : 1 ≤ kind ∧ kind < 8) (hc : cells ≤ 4000) (hr4 : raw ≤ 4000) (hT : tookL S.L (wordsN cells raw) = some (L', a)) :
    Calls Try.prog 35 #[.pointer (some ⟨p, 0, none⟩), .int .i64 ki, .int .i64 ci, .int .i64 ri] w fun e w' => EngDo o w r p (makeA S L' a kind cells raw) (.tuple #[.int .i64 (a : Nat), .int .i64 0]) e w' ∧ S.ob (a : Int) = none ∧ 64 ≤ a ∧ a < 262144 ∧ L'.ok = true ∧ L'.n = S.L.n := by
  subst e1 e2 e3
  obtain ⟨ps, pt, pz, pp, bw, bk, v, E⟩ := E
  have hn4 : S.L.n ≤ 4096 := by
    obtain ⟨K, E1, A1⟩ := E
    rw [A1.L]; exact E1.sp.nle
  have hwp := wordsN_pos cells raw
  refine (xmake_yes kind cells raw L' a w ho E hok (by omega) hc hr4 hT (by omega)).mono ?_
  intro e w' hh
  obtain ⟨h1, h2, h3, h4, h5, h6, o', F, E'⟩ := hh.1 L' a hT
  exact ⟨⟨h1, o', F, E'.rep⟩, h2, h3, by omega, h5, h6⟩
/-- Between two rounds of the copying. -/
def RoomRel (o : Own) (w : World) (r p : Nat) (S1 : EngS) (t : Int) (xt : Ob) (f : Nat → Nat × Int) (i : Nat) (wr : World) : Prop := ∃ o', Fr r (r + 29) o o' w wr ∧ EngRep o' wr r p (copyA S1 t xt f i)
end Go.Proofs.Ytlpklloagaccoaa
