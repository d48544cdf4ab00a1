/- Closed facts of the program that a row's check asks, each by itself. No condition. -/
import Derived.Test.YtlpklloagaccoaaGreatRows
import Derived.WalkKit
import Derived.ProofKit
import Derived.OpenShut
namespace Go.Proofs.YtlpklloagaccoaaGreat
open Go.ChangeShapes Go.WideShapes Go.ChangeAt Go.RowKit
set_option linter.unusedVariables false

theorem and_t {a b : Bool} (ha : a = true) (hb : b = true) : (a && b) = true := by rw [ha, hb]; rfl
set_option maxRecDepth 100000 in
theorem cutWord : (behindMainWord (wordsSigns Tryz.prog.initOrder.toList)).head? = some "cut".toList := by
  have e : ∃ l, Tryz.prog.initOrder.toList = l ∧ (behindMainWord (wordsSigns l)).head? = some "cut".toList := ⟨_, String.toList_ofList, by kernel_rfl⟩
  obtain ⟨l, h1, h2⟩ := e
  rw [h1]; exact h2
theorem cutWords : ∃ ws, behindMainWord (wordsSigns Tryz.prog.initOrder.toList) = "cut".toList :: ws := by
  have h := cutWord
  cases hb : behindMainWord (wordsSigns Tryz.prog.initOrder.toList) with
  | nil => rw [hb] at h; cases h
  | cons c ws =>
    rw [hb] at h
    exact ⟨ws, by rw [show c = "cut".toList from Option.some.inj h]⟩
theorem make_of {P : Program} {ws : List (List Char)} (h : behindMainWord (wordsSigns P.initOrder.toList) = "cut".toList :: ws) : P.make = some .cut := by
  unfold Program.make
  rw [h]
  rfl
theorem strips (ws : List (List Char)) : stripLifts liftWords ("cut".toList :: ws) = ([], "cut".toList :: ws) := rfl
theorem lifts_of {P : Program} {ws : List (List Char)} (h : behindMainWord (wordsSigns P.initOrder.toList) = "cut".toList :: ws) : P.liftsFinal = false := by
  have h2 : P.headLifts = [] := by
    unfold Program.headLifts
    rw [h]
    rfl
  unfold Program.liftsFinal
  rw [h2, h]
  rfl
theorem enter_of {P : Program} {ws : List (List Char)} (h : behindMainWord (wordsSigns P.initOrder.toList) = "cut".toList :: ws) (h1 : P.laysLater = false) (h2 : P.bearsReflect = false) (h3 : P.doorFits [] = true) : P.mayEnter = true := by
  unfold Program.mayEnter
  rw [h]
  show (_ || _ || ((stripLifts liftWords ("cut".toList :: ws)).2.head? == some "cut".toList && _ && _ && _ && _)) = true
  rw [strips, h1, h2, h3]
  rfl
theorem laysNot : Tryz.prog.laysLater = false := by kernel_rfl
theorem bearsNot : Tryz.prog.bearsReflect = false := by kernel_rfl
theorem doorsFit : Tryz.prog.doorFits [] = true := by kernel_rfl
theorem factMake : (Tryz.prog.make == some .cut) = true := by
  obtain ⟨ws, h⟩ := cutWords
  rw [make_of h]
  rfl
theorem factLifts : (false == Tryz.prog.liftsFinal) = true := by
  obtain ⟨ws, h⟩ := cutWords
  rw [lifts_of h]
  rfl
theorem factEnter : Tryz.prog.mayEnter = true := by
  obtain ⟨ws, h⟩ := cutWords
  exact enter_of h laysNot bearsNot doorsFit
theorem factLaid : laidOutB Tryz.prog = true := by kernel_rfl
theorem factRowed : mapsRowed Tryz.prog = true := by kernel_rfl
theorem factKeys : (true == Tryz.prog.plainKeys) = true := by kernel_rfl
theorem factHeard : Tryz.prog.stopsHeard = true := by kernel_rfl
end Go.Proofs.YtlpklloagaccoaaGreat
