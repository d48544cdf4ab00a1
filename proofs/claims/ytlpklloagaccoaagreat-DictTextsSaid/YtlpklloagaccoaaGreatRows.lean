/-
  No cell of these rows narrows 'for every input' (looked for: loops, veiled, ifaces, maps, wideKeys, modest, calm, conditions, laid).
  DERIVED. THE GIVEN ROWS OF THIS SEAT. 23 by the template 'for every input the law returns true; each argument reads behind the call as it read before'; 0 by the template 'total and deterministic' (their statements: YtlpklloagaccoaaGreatTotals.lean).
  GIVEN WITH THE SEED: the statements are not yours to turn. If you find one false, say at which input.
  Laid BY PROGRAM, IN A SANDBOX (cutbox-rows.mjs): the forced cells as the released guide's own fill.sh prints them over the translation 3a7cc294ce769238… (all of the seat's roots in one cut). By AI agents, Wed Nov 11 2026. No macro, syntax, notation, axiom, sorry.
-/
import Derived.Test.YtlpklloagaccoaaGreatChecked
import GoSem.Claim
import GoSem.ClaimJoined
import GoSem.ClaimMapViews
import Derived.JoinedTies
import Derived.KernelRfl
namespace Go.Proofs.YtlpklloagaccoaaGreat
/- THE CELL 'sum', in the pinned program and in every row, IS THE sha256 OF THE DUMP (.gsa) THAT YtlpklloagaccoaaGreatProg.lean LOADS. Nothing in Lean hashes anything: it is a label: what it is worth is what the hold of that sum in a sandbox is worth. -/
noncomputable def Tryz.pinned : Pinned := { name := "ytlpklloagaccoaagreat", sum := "3a7cc294ce769238f3746e09f8947c6fbb064a2ba64e1eeb0aa7dd9db52ff505", checked := Tryz.checked }
namespace Rows
def none {H : Type} : Left H := { results := [], args := [] }

/-- 'dustcartlaw17.ListGrows': WHATEVER THE INPUT: true; the input reads as it did. -/
def listGrowsSpec : ChangeSpec := { name := "listGrows", fn := fun _ => fun
  | [d] => { results := [.lit (.bool true)], args := [d] }
  | _ => none }
def listGrowsRow : OpenClaim := { program := "ytlpklloagaccoaagreat", sum := "3a7cc294ce769238f3746e09f8947c6fbb064a2ba64e1eeb0aa7dd9db52ff505", func := "dustcart/dustcartlaw17.ListGrows", spec := "listGrows", unfollowed := true, recurses := true, apart := false }
def ListGrowsSaid : Prop := listGrowsRow.holds Tryz.pinned (OpenSpec.ofChange listGrowsSpec)

/-- ITS FALSE NEIGHBOUR: 'it returns false'. Refute it at one input. -/
def listGrowsWrong : ChangeSpec := { name := "listGrows", fn := fun _ => fun
  | [d] => { results := [.lit (.bool false)], args := [d] }
  | _ => none }
def ListGrowsWrongFalsely : Prop := listGrowsRow.holds Tryz.pinned (OpenSpec.ofChange listGrowsWrong)

/-- 'dustcartlaw17.ListFull': WHATEVER THE INPUT: true; the input reads as it did. -/
def listFullSpec : ChangeSpec := { name := "listFull", fn := fun _ => fun
  | [d] => { results := [.lit (.bool true)], args := [d] }
  | _ => none }
def listFullRow : OpenClaim := { program := "ytlpklloagaccoaagreat", sum := "3a7cc294ce769238f3746e09f8947c6fbb064a2ba64e1eeb0aa7dd9db52ff505", func := "dustcart/dustcartlaw17.ListFull", spec := "listFull", unfollowed := true, recurses := true, apart := false }
def ListFullSaid : Prop := listFullRow.holds Tryz.pinned (OpenSpec.ofChange listFullSpec)

/-- ITS FALSE NEIGHBOUR: 'it returns false'. Refute it at one input. -/
def listFullWrong : ChangeSpec := { name := "listFull", fn := fun _ => fun
  | [d] => { results := [.lit (.bool false)], args := [d] }
  | _ => none }
def ListFullWrongFalsely : Prop := listFullRow.holds Tryz.pinned (OpenSpec.ofChange listFullWrong)

/-- 'dustcartlaw17.ListKeeps': WHATEVER THE INPUT: true; the input reads as it did. -/
def listKeepsSpec : ChangeSpec := { name := "listKeeps", fn := fun _ => fun
  | [d1, d2] => { results := [.lit (.bool true)], args := [d1, d2] }
  | _ => none }
def listKeepsRow : OpenClaim := { program := "ytlpklloagaccoaagreat", sum := "3a7cc294ce769238f3746e09f8947c6fbb064a2ba64e1eeb0aa7dd9db52ff505", func := "dustcart/dustcartlaw17.ListKeeps", spec := "listKeeps", unfollowed := true, recurses := true, apart := false }
def ListKeepsSaid : Prop := listKeepsRow.holds Tryz.pinned (OpenSpec.ofChange listKeepsSpec)

/-- ITS FALSE NEIGHBOUR: 'it returns false'. Refute it at one input. -/
def listKeepsWrong : ChangeSpec := { name := "listKeeps", fn := fun _ => fun
  | [d1, d2] => { results := [.lit (.bool false)], args := [d1, d2] }
  | _ => none }
def ListKeepsWrongFalsely : Prop := listKeepsRow.holds Tryz.pinned (OpenSpec.ofChange listKeepsWrong)

/-- 'dustcartlaw17.ListHolds': WHATEVER THE INPUT: true; the input reads as it did. -/
def listHoldsSpec : ChangeSpec := { name := "listHolds", fn := fun _ => fun
  | [d1, d2] => { results := [.lit (.bool true)], args := [d1, d2] }
  | _ => none }
def listHoldsRow : OpenClaim := { program := "ytlpklloagaccoaagreat", sum := "3a7cc294ce769238f3746e09f8947c6fbb064a2ba64e1eeb0aa7dd9db52ff505", func := "dustcart/dustcartlaw17.ListHolds", spec := "listHolds", unfollowed := true, recurses := true, apart := false }
def ListHoldsSaid : Prop := listHoldsRow.holds Tryz.pinned (OpenSpec.ofChange listHoldsSpec)

/-- ITS FALSE NEIGHBOUR: 'it returns false'. Refute it at one input. -/
def listHoldsWrong : ChangeSpec := { name := "listHolds", fn := fun _ => fun
  | [d1, d2] => { results := [.lit (.bool false)], args := [d1, d2] }
  | _ => none }
def ListHoldsWrongFalsely : Prop := listHoldsRow.holds Tryz.pinned (OpenSpec.ofChange listHoldsWrong)

/-- 'dustcartlaw18.DictKinds': WHATEVER THE INPUT: true; the input reads as it did. -/
def dictKindsSpec : ChangeSpec := { name := "dictKinds", fn := fun _ => fun
  | [d] => { results := [.lit (.bool true)], args := [d] }
  | _ => none }
def dictKindsRow : OpenClaim := { program := "ytlpklloagaccoaagreat", sum := "3a7cc294ce769238f3746e09f8947c6fbb064a2ba64e1eeb0aa7dd9db52ff505", func := "dustcart/dustcartlaw18.DictKinds", spec := "dictKinds", unfollowed := true, recurses := true, apart := false }
def DictKindsSaid : Prop := dictKindsRow.holds Tryz.pinned (OpenSpec.ofChange dictKindsSpec)

/-- ITS FALSE NEIGHBOUR: 'it returns false'. Refute it at one input. -/
def dictKindsWrong : ChangeSpec := { name := "dictKinds", fn := fun _ => fun
  | [d] => { results := [.lit (.bool false)], args := [d] }
  | _ => none }
def DictKindsWrongFalsely : Prop := dictKindsRow.holds Tryz.pinned (OpenSpec.ofChange dictKindsWrong)

/-- 'dustcartlaw18.DictKeeps': WHATEVER THE INPUT: true; the input reads as it did. -/
def dictKeepsSpec : ChangeSpec := { name := "dictKeeps", fn := fun _ => fun
  | [d1, d2] => { results := [.lit (.bool true)], args := [d1, d2] }
  | _ => none }
def dictKeepsRow : OpenClaim := { program := "ytlpklloagaccoaagreat", sum := "3a7cc294ce769238f3746e09f8947c6fbb064a2ba64e1eeb0aa7dd9db52ff505", func := "dustcart/dustcartlaw18.DictKeeps", spec := "dictKeeps", unfollowed := true, recurses := true, apart := false }
def DictKeepsSaid : Prop := dictKeepsRow.holds Tryz.pinned (OpenSpec.ofChange dictKeepsSpec)

/-- ITS FALSE NEIGHBOUR: 'it returns false'. Refute it at one input. -/
def dictKeepsWrong : ChangeSpec := { name := "dictKeeps", fn := fun _ => fun
  | [d1, d2] => { results := [.lit (.bool false)], args := [d1, d2] }
  | _ => none }
def DictKeepsWrongFalsely : Prop := dictKeepsRow.holds Tryz.pinned (OpenSpec.ofChange dictKeepsWrong)

/-- 'dustcartlaw18.DictTexts': WHATEVER THE INPUT: true; the input reads as it did. -/
def dictTextsSpec : ChangeSpec := { name := "dictTexts", fn := fun _ => fun
  | [d] => { results := [.lit (.bool true)], args := [d] }
  | _ => none }
def dictTextsRow : OpenClaim := { program := "ytlpklloagaccoaagreat", sum := "3a7cc294ce769238f3746e09f8947c6fbb064a2ba64e1eeb0aa7dd9db52ff505", func := "dustcart/dustcartlaw18.DictTexts", spec := "dictTexts", unfollowed := true, recurses := true, apart := false }
def DictTextsSaid : Prop := dictTextsRow.holds Tryz.pinned (OpenSpec.ofChange dictTextsSpec)

/-- ITS FALSE NEIGHBOUR: 'it returns false'. Refute it at one input. -/
def dictTextsWrong : ChangeSpec := { name := "dictTexts", fn := fun _ => fun
  | [d] => { results := [.lit (.bool false)], args := [d] }
  | _ => none }
def DictTextsWrongFalsely : Prop := dictTextsRow.holds Tryz.pinned (OpenSpec.ofChange dictTextsWrong)

/-- 'dustcartlaw11.ObjectDamaged': WHATEVER THE INPUT: true; the input reads as it did. -/
def objectDamagedSpec : ChangeSpec := { name := "objectDamaged", fn := fun _ => fun
  | [d1, d2, d3, d4] => { results := [.lit (.bool true)], args := [d1, d2, d3, d4] }
  | _ => none }
def objectDamagedRow : OpenClaim := { program := "ytlpklloagaccoaagreat", sum := "3a7cc294ce769238f3746e09f8947c6fbb064a2ba64e1eeb0aa7dd9db52ff505", func := "dustcart/dustcartlaw11.ObjectDamaged", spec := "objectDamaged", unfollowed := true, recurses := true, apart := false }
def ObjectDamagedSaid : Prop := objectDamagedRow.holds Tryz.pinned (OpenSpec.ofChange objectDamagedSpec)

/-- ITS FALSE NEIGHBOUR: 'it returns false'. Refute it at one input. -/
def objectDamagedWrong : ChangeSpec := { name := "objectDamaged", fn := fun _ => fun
  | [d1, d2, d3, d4] => { results := [.lit (.bool false)], args := [d1, d2, d3, d4] }
  | _ => none }
def ObjectDamagedWrongFalsely : Prop := objectDamagedRow.holds Tryz.pinned (OpenSpec.ofChange objectDamagedWrong)

/-- 'dustcartlaw11.ObjectFalse': WHATEVER THE INPUT: true; the input reads as it did. -/
def objectFalseSpec : ChangeSpec := { name := "objectFalse", fn := fun _ => fun
  | [d] => { results := [.lit (.bool true)], args := [d] }
  | _ => none }
def objectFalseRow : OpenClaim := { program := "ytlpklloagaccoaagreat", sum := "3a7cc294ce769238f3746e09f8947c6fbb064a2ba64e1eeb0aa7dd9db52ff505", func := "dustcart/dustcartlaw11.ObjectFalse", spec := "objectFalse", unfollowed := true, recurses := true, apart := false }
def ObjectFalseSaid : Prop := objectFalseRow.holds Tryz.pinned (OpenSpec.ofChange objectFalseSpec)

/-- ITS FALSE NEIGHBOUR: 'it returns false'. Refute it at one input. -/
def objectFalseWrong : ChangeSpec := { name := "objectFalse", fn := fun _ => fun
  | [d] => { results := [.lit (.bool false)], args := [d] }
  | _ => none }
def ObjectFalseWrongFalsely : Prop := objectFalseRow.holds Tryz.pinned (OpenSpec.ofChange objectFalseWrong)

/-- 'dustcartlaw12.CountMoves': WHATEVER THE INPUT: true; the input reads as it did. -/
def countMovesSpec : ChangeSpec := { name := "countMoves", fn := fun _ => fun
  | [d1, d2] => { results := [.lit (.bool true)], args := [d1, d2] }
  | _ => none }
def countMovesRow : OpenClaim := { program := "ytlpklloagaccoaagreat", sum := "3a7cc294ce769238f3746e09f8947c6fbb064a2ba64e1eeb0aa7dd9db52ff505", func := "dustcart/dustcartlaw12.CountMoves", spec := "countMoves", unfollowed := true, recurses := true, apart := false }
def CountMovesSaid : Prop := countMovesRow.holds Tryz.pinned (OpenSpec.ofChange countMovesSpec)

/-- ITS FALSE NEIGHBOUR: 'it returns false'. Refute it at one input. -/
def countMovesWrong : ChangeSpec := { name := "countMoves", fn := fun _ => fun
  | [d1, d2] => { results := [.lit (.bool false)], args := [d1, d2] }
  | _ => none }
def CountMovesWrongFalsely : Prop := countMovesRow.holds Tryz.pinned (OpenSpec.ofChange countMovesWrong)

/-- 'dustcartlaw12.CountSticky': WHATEVER THE INPUT: true; the input reads as it did. -/
def countStickySpec : ChangeSpec := { name := "countSticky", fn := fun _ => fun
  | [d1, d2] => { results := [.lit (.bool true)], args := [d1, d2] }
  | _ => none }
def countStickyRow : OpenClaim := { program := "ytlpklloagaccoaagreat", sum := "3a7cc294ce769238f3746e09f8947c6fbb064a2ba64e1eeb0aa7dd9db52ff505", func := "dustcart/dustcartlaw12.CountSticky", spec := "countSticky", unfollowed := true, recurses := true, apart := false }
def CountStickySaid : Prop := countStickyRow.holds Tryz.pinned (OpenSpec.ofChange countStickySpec)

/-- ITS FALSE NEIGHBOUR: 'it returns false'. Refute it at one input. -/
def countStickyWrong : ChangeSpec := { name := "countSticky", fn := fun _ => fun
  | [d1, d2] => { results := [.lit (.bool false)], args := [d1, d2] }
  | _ => none }
def CountStickyWrongFalsely : Prop := countStickyRow.holds Tryz.pinned (OpenSpec.ofChange countStickyWrong)

/-- 'dustcartlaw16.TextLimits': WHATEVER THE INPUT: true; the input reads as it did. -/
def textLimitsSpec : ChangeSpec := { name := "textLimits", fn := fun _ => fun
  | [d1, d2] => { results := [.lit (.bool true)], args := [d1, d2] }
  | _ => none }
def textLimitsRow : OpenClaim := { program := "ytlpklloagaccoaagreat", sum := "3a7cc294ce769238f3746e09f8947c6fbb064a2ba64e1eeb0aa7dd9db52ff505", func := "dustcart/dustcartlaw16.TextLimits", spec := "textLimits", unfollowed := true, recurses := true, apart := false }
def TextLimitsSaid : Prop := textLimitsRow.holds Tryz.pinned (OpenSpec.ofChange textLimitsSpec)

/-- ITS FALSE NEIGHBOUR: 'it returns false'. Refute it at one input. -/
def textLimitsWrong : ChangeSpec := { name := "textLimits", fn := fun _ => fun
  | [d1, d2] => { results := [.lit (.bool false)], args := [d1, d2] }
  | _ => none }
def TextLimitsWrongFalsely : Prop := textLimitsRow.holds Tryz.pinned (OpenSpec.ofChange textLimitsWrong)

/-- 'dustcartlaw12.CountTells': WHATEVER THE INPUT: true; the input reads as it did. -/
def countTellsSpec : ChangeSpec := { name := "countTells", fn := fun _ => fun
  | [d1, d2] => { results := [.lit (.bool true)], args := [d1, d2] }
  | _ => none }
def countTellsRow : OpenClaim := { program := "ytlpklloagaccoaagreat", sum := "3a7cc294ce769238f3746e09f8947c6fbb064a2ba64e1eeb0aa7dd9db52ff505", func := "dustcart/dustcartlaw12.CountTells", spec := "countTells", unfollowed := true, recurses := true, apart := false }
def CountTellsSaid : Prop := countTellsRow.holds Tryz.pinned (OpenSpec.ofChange countTellsSpec)

/-- ITS FALSE NEIGHBOUR: 'it returns false'. Refute it at one input. -/
def countTellsWrong : ChangeSpec := { name := "countTells", fn := fun _ => fun
  | [d1, d2] => { results := [.lit (.bool false)], args := [d1, d2] }
  | _ => none }
def CountTellsWrongFalsely : Prop := countTellsRow.holds Tryz.pinned (OpenSpec.ofChange countTellsWrong)

/-- 'dustcartlaw12.CountWeak': WHATEVER THE INPUT: true; the input reads as it did. -/
def countWeakSpec : ChangeSpec := { name := "countWeak", fn := fun _ => fun
  | [d1, d2] => { results := [.lit (.bool true)], args := [d1, d2] }
  | _ => none }
def countWeakRow : OpenClaim := { program := "ytlpklloagaccoaagreat", sum := "3a7cc294ce769238f3746e09f8947c6fbb064a2ba64e1eeb0aa7dd9db52ff505", func := "dustcart/dustcartlaw12.CountWeak", spec := "countWeak", unfollowed := true, recurses := true, apart := false }
def CountWeakSaid : Prop := countWeakRow.holds Tryz.pinned (OpenSpec.ofChange countWeakSpec)

/-- ITS FALSE NEIGHBOUR: 'it returns false'. Refute it at one input. -/
def countWeakWrong : ChangeSpec := { name := "countWeak", fn := fun _ => fun
  | [d1, d2] => { results := [.lit (.bool false)], args := [d1, d2] }
  | _ => none }
def CountWeakWrongFalsely : Prop := countWeakRow.holds Tryz.pinned (OpenSpec.ofChange countWeakWrong)

/-- 'dustcartlaw12.CountSelf': WHATEVER THE INPUT: true; the input reads as it did. -/
def countSelfSpec : ChangeSpec := { name := "countSelf", fn := fun _ => fun
  | [d] => { results := [.lit (.bool true)], args := [d] }
  | _ => none }
def countSelfRow : OpenClaim := { program := "ytlpklloagaccoaagreat", sum := "3a7cc294ce769238f3746e09f8947c6fbb064a2ba64e1eeb0aa7dd9db52ff505", func := "dustcart/dustcartlaw12.CountSelf", spec := "countSelf", unfollowed := true, recurses := true, apart := false }
def CountSelfSaid : Prop := countSelfRow.holds Tryz.pinned (OpenSpec.ofChange countSelfSpec)

/-- ITS FALSE NEIGHBOUR: 'it returns false'. Refute it at one input. -/
def countSelfWrong : ChangeSpec := { name := "countSelf", fn := fun _ => fun
  | [d] => { results := [.lit (.bool false)], args := [d] }
  | _ => none }
def CountSelfWrongFalsely : Prop := countSelfRow.holds Tryz.pinned (OpenSpec.ofChange countSelfWrong)

/-- 'dustcartlaw13.DrainRows': WHATEVER THE INPUT: true; the input reads as it did. -/
def drainRowsSpec : ChangeSpec := { name := "drainRows", fn := fun _ => fun
  | [d1, d2] => { results := [.lit (.bool true)], args := [d1, d2] }
  | _ => none }
def drainRowsRow : OpenClaim := { program := "ytlpklloagaccoaagreat", sum := "3a7cc294ce769238f3746e09f8947c6fbb064a2ba64e1eeb0aa7dd9db52ff505", func := "dustcart/dustcartlaw13.DrainRows", spec := "drainRows", unfollowed := true, recurses := true, apart := false }
def DrainRowsSaid : Prop := drainRowsRow.holds Tryz.pinned (OpenSpec.ofChange drainRowsSpec)

/-- ITS FALSE NEIGHBOUR: 'it returns false'. Refute it at one input. -/
def drainRowsWrong : ChangeSpec := { name := "drainRows", fn := fun _ => fun
  | [d1, d2] => { results := [.lit (.bool false)], args := [d1, d2] }
  | _ => none }
def DrainRowsWrongFalsely : Prop := drainRowsRow.holds Tryz.pinned (OpenSpec.ofChange drainRowsWrong)

/-- 'dustcartlaw13.DrainShares': WHATEVER THE INPUT: true; the input reads as it did. -/
def drainSharesSpec : ChangeSpec := { name := "drainShares", fn := fun _ => fun
  | [d] => { results := [.lit (.bool true)], args := [d] }
  | _ => none }
def drainSharesRow : OpenClaim := { program := "ytlpklloagaccoaagreat", sum := "3a7cc294ce769238f3746e09f8947c6fbb064a2ba64e1eeb0aa7dd9db52ff505", func := "dustcart/dustcartlaw13.DrainShares", spec := "drainShares", unfollowed := true, recurses := true, apart := false }
def DrainSharesSaid : Prop := drainSharesRow.holds Tryz.pinned (OpenSpec.ofChange drainSharesSpec)

/-- ITS FALSE NEIGHBOUR: 'it returns false'. Refute it at one input. -/
def drainSharesWrong : ChangeSpec := { name := "drainShares", fn := fun _ => fun
  | [d] => { results := [.lit (.bool false)], args := [d] }
  | _ => none }
def DrainSharesWrongFalsely : Prop := drainSharesRow.holds Tryz.pinned (OpenSpec.ofChange drainSharesWrong)

/-- 'dustcartlaw14.TrialLinks': WHATEVER THE INPUT: true; the input reads as it did. -/
def trialLinksSpec : ChangeSpec := { name := "trialLinks", fn := fun _ => fun
  | [d1, d2, d3] => { results := [.lit (.bool true)], args := [d1, d2, d3] }
  | _ => none }
def trialLinksRow : OpenClaim := { program := "ytlpklloagaccoaagreat", sum := "3a7cc294ce769238f3746e09f8947c6fbb064a2ba64e1eeb0aa7dd9db52ff505", func := "dustcart/dustcartlaw14.TrialLinks", spec := "trialLinks", unfollowed := true, recurses := true, apart := false }
def TrialLinksSaid : Prop := trialLinksRow.holds Tryz.pinned (OpenSpec.ofChange trialLinksSpec)

/-- ITS FALSE NEIGHBOUR: 'it returns false'. Refute it at one input. -/
def trialLinksWrong : ChangeSpec := { name := "trialLinks", fn := fun _ => fun
  | [d1, d2, d3] => { results := [.lit (.bool false)], args := [d1, d2, d3] }
  | _ => none }
def TrialLinksWrongFalsely : Prop := trialLinksRow.holds Tryz.pinned (OpenSpec.ofChange trialLinksWrong)

/-- 'dustcartlaw13.DrainTells': WHATEVER THE INPUT: true; the input reads as it did. -/
def drainTellsSpec : ChangeSpec := { name := "drainTells", fn := fun _ => fun
  | [d1, d2] => { results := [.lit (.bool true)], args := [d1, d2] }
  | _ => none }
def drainTellsRow : OpenClaim := { program := "ytlpklloagaccoaagreat", sum := "3a7cc294ce769238f3746e09f8947c6fbb064a2ba64e1eeb0aa7dd9db52ff505", func := "dustcart/dustcartlaw13.DrainTells", spec := "drainTells", unfollowed := true, recurses := true, apart := false }
def DrainTellsSaid : Prop := drainTellsRow.holds Tryz.pinned (OpenSpec.ofChange drainTellsSpec)

/-- ITS FALSE NEIGHBOUR: 'it returns false'. Refute it at one input. -/
def drainTellsWrong : ChangeSpec := { name := "drainTells", fn := fun _ => fun
  | [d1, d2] => { results := [.lit (.bool false)], args := [d1, d2] }
  | _ => none }
def DrainTellsWrongFalsely : Prop := drainTellsRow.holds Tryz.pinned (OpenSpec.ofChange drainTellsWrong)

/-- 'dustcartlaw14.TrialRings': WHATEVER THE INPUT: true; the input reads as it did. -/
def trialRingsSpec : ChangeSpec := { name := "trialRings", fn := fun _ => fun
  | [d1, d2, d3, d4] => { results := [.lit (.bool true)], args := [d1, d2, d3, d4] }
  | _ => none }
def trialRingsRow : OpenClaim := { program := "ytlpklloagaccoaagreat", sum := "3a7cc294ce769238f3746e09f8947c6fbb064a2ba64e1eeb0aa7dd9db52ff505", func := "dustcart/dustcartlaw14.TrialRings", spec := "trialRings", unfollowed := true, recurses := true, apart := false }
def TrialRingsSaid : Prop := trialRingsRow.holds Tryz.pinned (OpenSpec.ofChange trialRingsSpec)

/-- ITS FALSE NEIGHBOUR: 'it returns false'. Refute it at one input. -/
def trialRingsWrong : ChangeSpec := { name := "trialRings", fn := fun _ => fun
  | [d1, d2, d3, d4] => { results := [.lit (.bool false)], args := [d1, d2, d3, d4] }
  | _ => none }
def TrialRingsWrongFalsely : Prop := trialRingsRow.holds Tryz.pinned (OpenSpec.ofChange trialRingsWrong)

/-- 'dustcartlaw14.TrialSticks': WHATEVER THE INPUT: true; the input reads as it did. -/
def trialSticksSpec : ChangeSpec := { name := "trialSticks", fn := fun _ => fun
  | [d1, d2] => { results := [.lit (.bool true)], args := [d1, d2] }
  | _ => none }
def trialSticksRow : OpenClaim := { program := "ytlpklloagaccoaagreat", sum := "3a7cc294ce769238f3746e09f8947c6fbb064a2ba64e1eeb0aa7dd9db52ff505", func := "dustcart/dustcartlaw14.TrialSticks", spec := "trialSticks", unfollowed := true, recurses := true, apart := false }
def TrialSticksSaid : Prop := trialSticksRow.holds Tryz.pinned (OpenSpec.ofChange trialSticksSpec)

/-- ITS FALSE NEIGHBOUR: 'it returns false'. Refute it at one input. -/
def trialSticksWrong : ChangeSpec := { name := "trialSticks", fn := fun _ => fun
  | [d1, d2] => { results := [.lit (.bool false)], args := [d1, d2] }
  | _ => none }
def TrialSticksWrongFalsely : Prop := trialSticksRow.holds Tryz.pinned (OpenSpec.ofChange trialSticksWrong)

/-- 'dustcartlaw14.TrialWeak': WHATEVER THE INPUT: true; the input reads as it did. -/
def trialWeakSpec : ChangeSpec := { name := "trialWeak", fn := fun _ => fun
  | [d1, d2] => { results := [.lit (.bool true)], args := [d1, d2] }
  | _ => none }
def trialWeakRow : OpenClaim := { program := "ytlpklloagaccoaagreat", sum := "3a7cc294ce769238f3746e09f8947c6fbb064a2ba64e1eeb0aa7dd9db52ff505", func := "dustcart/dustcartlaw14.TrialWeak", spec := "trialWeak", unfollowed := true, recurses := true, apart := false }
def TrialWeakSaid : Prop := trialWeakRow.holds Tryz.pinned (OpenSpec.ofChange trialWeakSpec)

/-- ITS FALSE NEIGHBOUR: 'it returns false'. Refute it at one input. -/
def trialWeakWrong : ChangeSpec := { name := "trialWeak", fn := fun _ => fun
  | [d1, d2] => { results := [.lit (.bool false)], args := [d1, d2] }
  | _ => none }
def TrialWeakWrongFalsely : Prop := trialWeakRow.holds Tryz.pinned (OpenSpec.ofChange trialWeakWrong)

/-- 'dustcartlaw14.TrialTells': WHATEVER THE INPUT: true; the input reads as it did. -/
def trialTellsSpec : ChangeSpec := { name := "trialTells", fn := fun _ => fun
  | [d1, d2] => { results := [.lit (.bool true)], args := [d1, d2] }
  | _ => none }
def trialTellsRow : OpenClaim := { program := "ytlpklloagaccoaagreat", sum := "3a7cc294ce769238f3746e09f8947c6fbb064a2ba64e1eeb0aa7dd9db52ff505", func := "dustcart/dustcartlaw14.TrialTells", spec := "trialTells", unfollowed := true, recurses := true, apart := false }
def TrialTellsSaid : Prop := trialTellsRow.holds Tryz.pinned (OpenSpec.ofChange trialTellsSpec)

/-- ITS FALSE NEIGHBOUR: 'it returns false'. Refute it at one input. -/
def trialTellsWrong : ChangeSpec := { name := "trialTells", fn := fun _ => fun
  | [d1, d2] => { results := [.lit (.bool false)], args := [d1, d2] }
  | _ => none }
def TrialTellsWrongFalsely : Prop := trialTellsRow.holds Tryz.pinned (OpenSpec.ofChange trialTellsWrong)

/- THE SECOND FORM. 'bulk': how many values and letters a reading holds, each counted each time it is reached (what is shared counts as often as it is met; a slice's spare places count too). A statement '..UptoSaid' is the law's where the arguments, and the package variables that the reading takes, are together of bulk at most 1048576: NARROWER than '..Said'. Prove '..Said' where nothing that the law and all that it calls make is longer than what came in: it says more and counts as full. Else prove '..UptoSaid'. A law counts once. -/
mutual
def uptoBulk {H : Type} : DataW H → Nat
  | .lit (.string bytes) => bytes.length + 1
  | .lit _ => 1
  | .nil => 1
  | .ptr d => uptoBulk d + 1
  | .slice elems spare => uptoBulkAll elems + uptoBulkAll spare + 1
  | .agg parts => uptoBulkAll parts + 1
  | .iface _ d => uptoBulk d + 1
  | .map entries => uptoBulkEntries entries + 1
  | .held _ => 1
def uptoBulkAll {H : Type} : List (DataW H) → Nat
  | [] => 0
  | d :: r => uptoBulk d + uptoBulkAll r
def uptoBulkEntries {H : Type} : List (Lit × DataW H) → Nat
  | [] => 0
  | x :: r => uptoBulkEntry x + uptoBulkEntries r
def uptoBulkEntry {H : Type} : Lit × DataW H → Nat
  | (.string bytes, d) => bytes.length + uptoBulk d + 1
  | (_, d) => uptoBulk d + 1
 end
def uptoSmall : (H : Type) → List (DataW H) → Bool := fun _ ds => decide (uptoBulkAll ds ≤ 1048576)
def OpenSpec.upto (s : _root_.Go.ChangeSpec) : _root_.Go.OpenSpec := { _root_.Go.OpenSpec.ofChange s with cond := some uptoSmall }

/-- 'dustcartlaw17.ListGrows', WHERE WHAT IT READS IS OF BULK AT MOST 1048576: true; the input reads as it did. -/
def listGrowsUptoRow : OpenClaim := { program := "ytlpklloagaccoaagreat", sum := "3a7cc294ce769238f3746e09f8947c6fbb064a2ba64e1eeb0aa7dd9db52ff505", func := "dustcart/dustcartlaw17.ListGrows", spec := "listGrows", unfollowed := true, recurses := true, apart := false, narrowed := true }
def ListGrowsUptoSaid : Prop := listGrowsUptoRow.holds Tryz.pinned (OpenSpec.upto listGrowsSpec)

/-- 'dustcartlaw17.ListFull', WHERE WHAT IT READS IS OF BULK AT MOST 1048576: true; the input reads as it did. -/
def listFullUptoRow : OpenClaim := { program := "ytlpklloagaccoaagreat", sum := "3a7cc294ce769238f3746e09f8947c6fbb064a2ba64e1eeb0aa7dd9db52ff505", func := "dustcart/dustcartlaw17.ListFull", spec := "listFull", unfollowed := true, recurses := true, apart := false, narrowed := true }
def ListFullUptoSaid : Prop := listFullUptoRow.holds Tryz.pinned (OpenSpec.upto listFullSpec)

/-- 'dustcartlaw17.ListKeeps', WHERE WHAT IT READS IS OF BULK AT MOST 1048576: true; the input reads as it did. -/
def listKeepsUptoRow : OpenClaim := { program := "ytlpklloagaccoaagreat", sum := "3a7cc294ce769238f3746e09f8947c6fbb064a2ba64e1eeb0aa7dd9db52ff505", func := "dustcart/dustcartlaw17.ListKeeps", spec := "listKeeps", unfollowed := true, recurses := true, apart := false, narrowed := true }
def ListKeepsUptoSaid : Prop := listKeepsUptoRow.holds Tryz.pinned (OpenSpec.upto listKeepsSpec)

/-- 'dustcartlaw17.ListHolds', WHERE WHAT IT READS IS OF BULK AT MOST 1048576: true; the input reads as it did. -/
def listHoldsUptoRow : OpenClaim := { program := "ytlpklloagaccoaagreat", sum := "3a7cc294ce769238f3746e09f8947c6fbb064a2ba64e1eeb0aa7dd9db52ff505", func := "dustcart/dustcartlaw17.ListHolds", spec := "listHolds", unfollowed := true, recurses := true, apart := false, narrowed := true }
def ListHoldsUptoSaid : Prop := listHoldsUptoRow.holds Tryz.pinned (OpenSpec.upto listHoldsSpec)

/-- 'dustcartlaw18.DictKinds', WHERE WHAT IT READS IS OF BULK AT MOST 1048576: true; the input reads as it did. -/
def dictKindsUptoRow : OpenClaim := { program := "ytlpklloagaccoaagreat", sum := "3a7cc294ce769238f3746e09f8947c6fbb064a2ba64e1eeb0aa7dd9db52ff505", func := "dustcart/dustcartlaw18.DictKinds", spec := "dictKinds", unfollowed := true, recurses := true, apart := false, narrowed := true }
def DictKindsUptoSaid : Prop := dictKindsUptoRow.holds Tryz.pinned (OpenSpec.upto dictKindsSpec)

/-- 'dustcartlaw18.DictKeeps', WHERE WHAT IT READS IS OF BULK AT MOST 1048576: true; the input reads as it did. -/
def dictKeepsUptoRow : OpenClaim := { program := "ytlpklloagaccoaagreat", sum := "3a7cc294ce769238f3746e09f8947c6fbb064a2ba64e1eeb0aa7dd9db52ff505", func := "dustcart/dustcartlaw18.DictKeeps", spec := "dictKeeps", unfollowed := true, recurses := true, apart := false, narrowed := true }
def DictKeepsUptoSaid : Prop := dictKeepsUptoRow.holds Tryz.pinned (OpenSpec.upto dictKeepsSpec)

/-- 'dustcartlaw18.DictTexts', WHERE WHAT IT READS IS OF BULK AT MOST 1048576: true; the input reads as it did. -/
def dictTextsUptoRow : OpenClaim := { program := "ytlpklloagaccoaagreat", sum := "3a7cc294ce769238f3746e09f8947c6fbb064a2ba64e1eeb0aa7dd9db52ff505", func := "dustcart/dustcartlaw18.DictTexts", spec := "dictTexts", unfollowed := true, recurses := true, apart := false, narrowed := true }
def DictTextsUptoSaid : Prop := dictTextsUptoRow.holds Tryz.pinned (OpenSpec.upto dictTextsSpec)

/-- 'dustcartlaw11.ObjectDamaged', WHERE WHAT IT READS IS OF BULK AT MOST 1048576: true; the input reads as it did. -/
def objectDamagedUptoRow : OpenClaim := { program := "ytlpklloagaccoaagreat", sum := "3a7cc294ce769238f3746e09f8947c6fbb064a2ba64e1eeb0aa7dd9db52ff505", func := "dustcart/dustcartlaw11.ObjectDamaged", spec := "objectDamaged", unfollowed := true, recurses := true, apart := false, narrowed := true }
def ObjectDamagedUptoSaid : Prop := objectDamagedUptoRow.holds Tryz.pinned (OpenSpec.upto objectDamagedSpec)

/-- 'dustcartlaw11.ObjectFalse', WHERE WHAT IT READS IS OF BULK AT MOST 1048576: true; the input reads as it did. -/
def objectFalseUptoRow : OpenClaim := { program := "ytlpklloagaccoaagreat", sum := "3a7cc294ce769238f3746e09f8947c6fbb064a2ba64e1eeb0aa7dd9db52ff505", func := "dustcart/dustcartlaw11.ObjectFalse", spec := "objectFalse", unfollowed := true, recurses := true, apart := false, narrowed := true }
def ObjectFalseUptoSaid : Prop := objectFalseUptoRow.holds Tryz.pinned (OpenSpec.upto objectFalseSpec)

/-- 'dustcartlaw12.CountMoves', WHERE WHAT IT READS IS OF BULK AT MOST 1048576: true; the input reads as it did. -/
def countMovesUptoRow : OpenClaim := { program := "ytlpklloagaccoaagreat", sum := "3a7cc294ce769238f3746e09f8947c6fbb064a2ba64e1eeb0aa7dd9db52ff505", func := "dustcart/dustcartlaw12.CountMoves", spec := "countMoves", unfollowed := true, recurses := true, apart := false, narrowed := true }
def CountMovesUptoSaid : Prop := countMovesUptoRow.holds Tryz.pinned (OpenSpec.upto countMovesSpec)

/-- 'dustcartlaw12.CountSticky', WHERE WHAT IT READS IS OF BULK AT MOST 1048576: true; the input reads as it did. -/
def countStickyUptoRow : OpenClaim := { program := "ytlpklloagaccoaagreat", sum := "3a7cc294ce769238f3746e09f8947c6fbb064a2ba64e1eeb0aa7dd9db52ff505", func := "dustcart/dustcartlaw12.CountSticky", spec := "countSticky", unfollowed := true, recurses := true, apart := false, narrowed := true }
def CountStickyUptoSaid : Prop := countStickyUptoRow.holds Tryz.pinned (OpenSpec.upto countStickySpec)

/-- 'dustcartlaw16.TextLimits', WHERE WHAT IT READS IS OF BULK AT MOST 1048576: true; the input reads as it did. -/
def textLimitsUptoRow : OpenClaim := { program := "ytlpklloagaccoaagreat", sum := "3a7cc294ce769238f3746e09f8947c6fbb064a2ba64e1eeb0aa7dd9db52ff505", func := "dustcart/dustcartlaw16.TextLimits", spec := "textLimits", unfollowed := true, recurses := true, apart := false, narrowed := true }
def TextLimitsUptoSaid : Prop := textLimitsUptoRow.holds Tryz.pinned (OpenSpec.upto textLimitsSpec)

/-- 'dustcartlaw12.CountTells', WHERE WHAT IT READS IS OF BULK AT MOST 1048576: true; the input reads as it did. -/
def countTellsUptoRow : OpenClaim := { program := "ytlpklloagaccoaagreat", sum := "3a7cc294ce769238f3746e09f8947c6fbb064a2ba64e1eeb0aa7dd9db52ff505", func := "dustcart/dustcartlaw12.CountTells", spec := "countTells", unfollowed := true, recurses := true, apart := false, narrowed := true }
def CountTellsUptoSaid : Prop := countTellsUptoRow.holds Tryz.pinned (OpenSpec.upto countTellsSpec)

/-- 'dustcartlaw12.CountWeak', WHERE WHAT IT READS IS OF BULK AT MOST 1048576: true; the input reads as it did. -/
def countWeakUptoRow : OpenClaim := { program := "ytlpklloagaccoaagreat", sum := "3a7cc294ce769238f3746e09f8947c6fbb064a2ba64e1eeb0aa7dd9db52ff505", func := "dustcart/dustcartlaw12.CountWeak", spec := "countWeak", unfollowed := true, recurses := true, apart := false, narrowed := true }
def CountWeakUptoSaid : Prop := countWeakUptoRow.holds Tryz.pinned (OpenSpec.upto countWeakSpec)

/-- 'dustcartlaw12.CountSelf', WHERE WHAT IT READS IS OF BULK AT MOST 1048576: true; the input reads as it did. -/
def countSelfUptoRow : OpenClaim := { program := "ytlpklloagaccoaagreat", sum := "3a7cc294ce769238f3746e09f8947c6fbb064a2ba64e1eeb0aa7dd9db52ff505", func := "dustcart/dustcartlaw12.CountSelf", spec := "countSelf", unfollowed := true, recurses := true, apart := false, narrowed := true }
def CountSelfUptoSaid : Prop := countSelfUptoRow.holds Tryz.pinned (OpenSpec.upto countSelfSpec)

/-- 'dustcartlaw13.DrainRows', WHERE WHAT IT READS IS OF BULK AT MOST 1048576: true; the input reads as it did. -/
def drainRowsUptoRow : OpenClaim := { program := "ytlpklloagaccoaagreat", sum := "3a7cc294ce769238f3746e09f8947c6fbb064a2ba64e1eeb0aa7dd9db52ff505", func := "dustcart/dustcartlaw13.DrainRows", spec := "drainRows", unfollowed := true, recurses := true, apart := false, narrowed := true }
def DrainRowsUptoSaid : Prop := drainRowsUptoRow.holds Tryz.pinned (OpenSpec.upto drainRowsSpec)

/-- 'dustcartlaw13.DrainShares', WHERE WHAT IT READS IS OF BULK AT MOST 1048576: true; the input reads as it did. -/
def drainSharesUptoRow : OpenClaim := { program := "ytlpklloagaccoaagreat", sum := "3a7cc294ce769238f3746e09f8947c6fbb064a2ba64e1eeb0aa7dd9db52ff505", func := "dustcart/dustcartlaw13.DrainShares", spec := "drainShares", unfollowed := true, recurses := true, apart := false, narrowed := true }
def DrainSharesUptoSaid : Prop := drainSharesUptoRow.holds Tryz.pinned (OpenSpec.upto drainSharesSpec)

/-- 'dustcartlaw14.TrialLinks', WHERE WHAT IT READS IS OF BULK AT MOST 1048576: true; the input reads as it did. -/
def trialLinksUptoRow : OpenClaim := { program := "ytlpklloagaccoaagreat", sum := "3a7cc294ce769238f3746e09f8947c6fbb064a2ba64e1eeb0aa7dd9db52ff505", func := "dustcart/dustcartlaw14.TrialLinks", spec := "trialLinks", unfollowed := true, recurses := true, apart := false, narrowed := true }
def TrialLinksUptoSaid : Prop := trialLinksUptoRow.holds Tryz.pinned (OpenSpec.upto trialLinksSpec)

/-- 'dustcartlaw13.DrainTells', WHERE WHAT IT READS IS OF BULK AT MOST 1048576: true; the input reads as it did. -/
def drainTellsUptoRow : OpenClaim := { program := "ytlpklloagaccoaagreat", sum := "3a7cc294ce769238f3746e09f8947c6fbb064a2ba64e1eeb0aa7dd9db52ff505", func := "dustcart/dustcartlaw13.DrainTells", spec := "drainTells", unfollowed := true, recurses := true, apart := false, narrowed := true }
def DrainTellsUptoSaid : Prop := drainTellsUptoRow.holds Tryz.pinned (OpenSpec.upto drainTellsSpec)

/-- 'dustcartlaw14.TrialRings', WHERE WHAT IT READS IS OF BULK AT MOST 1048576: true; the input reads as it did. -/
def trialRingsUptoRow : OpenClaim := { program := "ytlpklloagaccoaagreat", sum := "3a7cc294ce769238f3746e09f8947c6fbb064a2ba64e1eeb0aa7dd9db52ff505", func := "dustcart/dustcartlaw14.TrialRings", spec := "trialRings", unfollowed := true, recurses := true, apart := false, narrowed := true }
def TrialRingsUptoSaid : Prop := trialRingsUptoRow.holds Tryz.pinned (OpenSpec.upto trialRingsSpec)

/-- 'dustcartlaw14.TrialSticks', WHERE WHAT IT READS IS OF BULK AT MOST 1048576: true; the input reads as it did. -/
def trialSticksUptoRow : OpenClaim := { program := "ytlpklloagaccoaagreat", sum := "3a7cc294ce769238f3746e09f8947c6fbb064a2ba64e1eeb0aa7dd9db52ff505", func := "dustcart/dustcartlaw14.TrialSticks", spec := "trialSticks", unfollowed := true, recurses := true, apart := false, narrowed := true }
def TrialSticksUptoSaid : Prop := trialSticksUptoRow.holds Tryz.pinned (OpenSpec.upto trialSticksSpec)

/-- 'dustcartlaw14.TrialWeak', WHERE WHAT IT READS IS OF BULK AT MOST 1048576: true; the input reads as it did. -/
def trialWeakUptoRow : OpenClaim := { program := "ytlpklloagaccoaagreat", sum := "3a7cc294ce769238f3746e09f8947c6fbb064a2ba64e1eeb0aa7dd9db52ff505", func := "dustcart/dustcartlaw14.TrialWeak", spec := "trialWeak", unfollowed := true, recurses := true, apart := false, narrowed := true }
def TrialWeakUptoSaid : Prop := trialWeakUptoRow.holds Tryz.pinned (OpenSpec.upto trialWeakSpec)

/-- 'dustcartlaw14.TrialTells', WHERE WHAT IT READS IS OF BULK AT MOST 1048576: true; the input reads as it did. -/
def trialTellsUptoRow : OpenClaim := { program := "ytlpklloagaccoaagreat", sum := "3a7cc294ce769238f3746e09f8947c6fbb064a2ba64e1eeb0aa7dd9db52ff505", func := "dustcart/dustcartlaw14.TrialTells", spec := "trialTells", unfollowed := true, recurses := true, apart := false, narrowed := true }
def TrialTellsUptoSaid : Prop := trialTellsUptoRow.holds Tryz.pinned (OpenSpec.upto trialTellsSpec)

end Rows
end Go.Proofs.YtlpklloagaccoaaGreat
