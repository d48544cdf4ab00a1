/- What an object's cells refer to (count.Refs). Conditions: the engine is as one that was made. -/
import Derived.Test.YtlpklloagaccoaaRoom
import Derived.Test.YtlpklloagaccoaaSl
import Derived.Outline
namespace Go.Proofs.Ytlpklloagaccoaa
open Go.RowKit
set_option linter.unusedVariables false

/-- References among the first cells. -/
def refsN (f : Nat → Nat × Int) : Nat → List Int
  | 0 => []
  | i + 1 => refsN f i ++ (if (f i).1 = 3 then [(f i).2] else [])
theorem refsN_len (f : Nat → Nat × Int) : ∀ i, (refsN f i).length ≤ i
  | 0 => Nat.le_refl _
  | i + 1 => by
    show (refsN f i ++ _).length ≤ i + 1
    rw [List.length_append]
    have := refsN_len f i
    split <;> simp <;> omega
def refsA (S : EngS) (h : Int) : List Int := if S.weak h = true then [] else match S.ob h with | some x => refsN x.val x.cells | none => []
/-- A call that gives a new row of numbers, and leaves all else. -/
def RowPostN (o : Own) (w : World) (xs : List Int) (e : Ending) (w' : World) : Prop := ∃ v, e = .returned v ∧ Fr 0 0 o o w w' ∧ RowNew w o w' v xs
theorem cellsA_le {o : Own} {w : World} {r p : Nat} {S : EngS} (E : EngRep o w r p S) (h : Int) : cellsA S h ≤ 4000 := by
  obtain ⟨ps, pt, pz, pp, bw, bk, v, K, E, A⟩ := E
  unfold cellsA
  cases hx : S.ob h with
  | none => exact Nat.zero_le _
  | some x =>
    obtain ⟨y, hy, e1, _⟩ := A.of_some hx
    have := (E.sp.obok hy).2.1
    rw [e1]; exact this
def RefsRel (o : Own) (w : World) (f : Nat → Nat × Int) (i : Nat) (v : Value) (wr : World) : Prop := Fr 0 0 o o w wr ∧ RowNew w o wr v (refsN f i)
end Go.Proofs.Ytlpklloagaccoaa
