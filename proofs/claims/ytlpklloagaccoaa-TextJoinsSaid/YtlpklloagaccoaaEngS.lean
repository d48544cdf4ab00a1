/- Counts go down (count.down). Conditions: the engine is as one that was made; the handle is an object's. The engine of counts with whole counts: its state in plain words; up, down. Conditions: the engine is as one that was made; handles are objects'. -/
import Derived.Test.YtlpklloagaccoaaEngUp
namespace Go.Proofs.Ytlpklloagaccoaa
open Go.RowKit
set_option linter.unusedVariables false

/-- Behind down. -/
def EDownPost (o : Own) (w : World) (r p : Nat) (K : EngK) (ps pt pz pp bw bk : Nat) (v : Value) (h : Int) (x : Ob) (e : Ending) (w' : World) : Prop :=
  ∃ (c' : Nat) (ex' : Int → Int), e = .returned (.tuple #[]) ∧ c' ≤ 255 ∧ (c' : Int) + ex' h = (if K.st h then x.cnt + K.ex h else if x.cnt + K.ex h = 0 then 0 else x.cnt + K.ex h - 1) ∧ (∀ k, k ≠ h → ex' k = K.ex k) ∧
    EngAt o w r p { K with ob := updI K.ob h (some (setCnt x c')), ex := ex', Z := (if K.st h = false ∧ x.cnt + K.ex h ≤ 1 then updS K.Z h true else K.Z), Pu := (if K.st h = false ∧ ¬ x.cnt + K.ex h ≤ 1 then updS K.Pu h true else K.Pu) } ps pt pz pp bw bk v w'
theorem SpillRep.ex0 {o : Own} {w : World} {r p : Nat} {lim : Int} {ex : Int → Int} {st : Int → Bool} (S : SpillRep o w r p lim ex st) (k : Int) : 0 ≤ ex k := by
  obtain ⟨_, _, _, _, S⟩ := S
  exact (S.ex1 k).1
end Go.Proofs.Ytlpklloagaccoaa
namespace Go.Proofs.Ytlpklloagaccoaa
open Go.RowKit
set_option linter.unusedVariables false

/-- An engine in plain words: objects (their headers' counts left out), whole counts. -/
structure EngS where
  L : Al
  ob : Int → Option Ob
  lim : Int
  tot : Int → Int
  st : Int → Bool
  Z : Int → Bool
  Pu : Int → Bool
  wat : Int → Bool
  weak : Int → Bool
  pend : List Int
def cntO (x : Option Ob) : Int := match x with | some x => x.cnt | none => 0
structure AbsK (K : EngK) (S : EngS) : Prop where
  L : S.L = K.L
  ob : ∀ h, S.ob h = (K.ob h).map fun x => setCnt x 0
  lim : S.lim = K.lim
  tot : ∀ h, S.tot h = cntO (K.ob h) + K.ex h
  st : S.st = K.st
  Z : S.Z = K.Z
  Pu : S.Pu = K.Pu
  wat : S.wat = K.wat
  weak : S.weak = K.weak
  pend : S.pend = K.pend
def EngX (o : Own) (w : World) (r p : Nat) (S : EngS) (ps pt pz pp bw bk : Nat) (v : Value) : Prop := ∃ K, Eng o w r p K ps pt pz pp bw bk v ∧ AbsK K S
def EngXAt (o : Own) (w : World) (r p : Nat) (S : EngS) (ps pt pz pp bw bk : Nat) (v : Value) (w' : World) : Prop := ∃ o', Fr r (r + 29) o o' w w' ∧ EngX o' w' r p S ps pt pz pp bw bk v
def EngRep (o : Own) (w : World) (r p : Nat) (S : EngS) : Prop := ∃ ps pt pz pp bw bk v, EngX o w r p S ps pt pz pp bw bk v
theorem EngX.keep {lo hi : Nat} {o o' : Own} {w w' : World} {r p : Nat} {S : EngS} {ps pt pz pp bw bk : Nat} {v : Value} (h : EngX o w r p S ps pt pz pp bw bk v) (k : Fr lo hi o o' w w') (hr : r + 29 ≤ lo ∨ hi ≤ r) : EngX o' w' r p S ps pt pz pp bw bk v :=
  let ⟨K, E, A⟩ := h; ⟨K, E.keep k hr, A⟩
theorem EngRep.keep {lo hi : Nat} {o o' : Own} {w w' : World} {r p : Nat} {S : EngS} (h : EngRep o w r p S) (k : Fr lo hi o o' w w') (hr : r + 29 ≤ lo ∨ hi ≤ r) : EngRep o' w' r p S :=
  let ⟨a, b, c, d, e, f, v, s⟩ := h; ⟨a, b, c, d, e, f, v, s.keep k hr⟩
theorem AbsK.of_some {K : EngK} {S : EngS} (A : AbsK K S) {h : Int} {x : Ob} (hx : S.ob h = some x) : ∃ y, K.ob h = some y ∧ x = setCnt y 0 ∧ S.tot h = y.cnt + K.ex h := by
  have h1 := A.ob h
  have h2 := A.tot h
  cases hy : K.ob h with
  | none => rw [hy, hx] at h1; cases h1
  | some y =>
    rw [hy] at h1 h2
    rw [hx] at h1
    exact ⟨y, rfl, by simpa using h1, h2⟩
theorem AbsK.of_none {K : EngK} {S : EngS} (A : AbsK K S) {h : Int} (hx : S.ob h = none) : K.ob h = none := by
  have h1 := A.ob h
  cases hy : K.ob h with
  | none => rfl
  | some y => rw [hy, hx] at h1; cases h1
/-- One more. -/
def upA (S : EngS) (h : Int) : EngS :=
  { S with tot := updI S.tot h (if S.st h then S.tot h else S.tot h + 1), st := updB S.st h (S.st h || decide (S.lim ≤ S.tot h + 1)), Z := (if S.tot h = 0 then updS S.Z h false else S.Z), Pu := (if S.tot h = 0 then updS S.Pu h true else S.Pu) }
/-- One less. -/
def downA (S : EngS) (h : Int) : EngS :=
  { S with tot := updI S.tot h (if S.st h then S.tot h else if S.tot h = 0 then 0 else S.tot h - 1), Z := (if S.st h = false ∧ S.tot h ≤ 1 then updS S.Z h true else S.Z), Pu := (if S.st h = false ∧ ¬ S.tot h ≤ 1 then updS S.Pu h true else S.Pu) }
theorem AbsK.turn {K : EngK} {S : EngS} (A : AbsK K S) {h : Int} {y : Ob} (hy : K.ob h = some y) {c' : Nat} {ex' : Int → Int} {t : Int} (hs : (c' : Int) + ex' h = t) (ho : ∀ k, k ≠ h → ex' k = K.ex k) (st' Z' Pu' : Int → Bool) :
    AbsK { K with ob := updI K.ob h (some (setCnt y c')), ex := ex', st := st', Z := Z', Pu := Pu' } { S with tot := updI S.tot h t, st := st', Z := Z', Pu := Pu' } := by
  refine ⟨A.L, fun k => ?_, A.lim, fun k => ?_, rfl, rfl, rfl, A.wat, A.weak, A.pend⟩
  · show S.ob k = (updI K.ob h _ k).map _
    unfold updI
    by_cases e : k = h
    · rw [if_pos e, e, A.ob h, hy]; rfl
    · rw [if_neg e]; exact A.ob k
  · show updI S.tot h t k = cntO (updI K.ob h _ k) + ex' k
    unfold updI
    by_cases e : k = h
    · rw [if_pos e, if_pos e, e]; exact hs.symm
    · rw [if_neg e, if_neg e, ho k e]; exact A.tot k
def UnitX (o : Own) (w : World) (r p : Nat) (S : EngS) (ps pt pz pp bw bk : Nat) (v : Value) (e : Ending) (w' : World) : Prop := e = .returned (.tuple #[]) ∧ EngXAt o w r p S ps pt pz pp bw bk v w'
end Go.Proofs.Ytlpklloagaccoaa
