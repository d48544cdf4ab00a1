/- Counts go up and down (count.up, down). Conditions: the engine is as one that was made; the handle is an object's. -/
import Derived.Test.YtlpklloagaccoaaEngW
import Derived.Deep.RegionWith
namespace Go.Proofs.Ytlpklloagaccoaa
open Go.RowKit
set_option linter.unusedVariables false

theorem Fr.unown {lo hi : Nat} {o o' : Own} {w w' : World} (F : Fr lo hi o o' w w') (hlo : 0 < lo) {b : Nat} {x : Obj} (hb : w.heap[b]? = some x) (ho : o b = 0) : w'.heap[b]? = some x ∧ o' b = 0 :=
  ⟨(F.block b (lt_of_block hb) (.inl (by omega))).trans hb, (F.own b (lt_of_block hb)).trans ho⟩
def EngAt (o : Own) (w : World) (r p : Nat) (K : EngK) (ps pt pz pp bw bk : Nat) (v : Value) (w' : World) : Prop := ∃ o', Fr r (r + 29) o o' w w' ∧ Eng o' w' r p K ps pt pz pp bw bk v
section
variable {o : Own} {w : World} {r p : Nat} {K : EngK} {ps pt pz pp bw bk : Nat} {v : Value}
theorem Eng.pushZ (E : Eng o w r p K ps pt pz pp bw bk v) (ho : Owned o w) (h : Int) (k0 : 0 ≤ h) (k1 : h < KB) :
    Calls Try.prog 57 #[.pointer (some ⟨pz, 0, none⟩), .int .i64 h] w fun e w' => e = .returned (.bool (!K.Z h)) ∧ EngAt o w r p { K with Z := updS K.Z h true } ps pt pz pp bw bk v w' :=
  (lpush_any h w ho E.zeros k0 k1).mono fun e w' hh => by
    obtain ⟨h1, o', F, L⟩ := hh
    exact ⟨h1, o', F.mono (by omega) (by omega), E.zerosT F L⟩
theorem Eng.pushP (E : Eng o w r p K ps pt pz pp bw bk v) (ho : Owned o w) (h : Int) (k0 : 0 ≤ h) (k1 : h < KB) :
    Calls Try.prog 57 #[.pointer (some ⟨pp, 0, none⟩), .int .i64 h] w fun e w' => e = .returned (.bool (!K.Pu h)) ∧ EngAt o w r p { K with Pu := updS K.Pu h true } ps pt pz pp bw bk v w' :=
  (lpush_any h w ho E.purple k0 k1).mono fun e w' hh => by
    obtain ⟨h1, o', F, L⟩ := hh
    exact ⟨h1, o', F.mono (by omega) (by omega), E.purpleT F L⟩
/-- Behind Up, Down of the table. -/
def CntAt (o : Own) (w : World) (r p : Nat) (K : EngK) (ps pt pz pp bw bk : Nat) (v : Value) (h : Int) (st' : Int → Bool) (tot : Int) (e : Ending) (w' : World) : Prop :=
  ∃ (c' : Nat) (ex' : Int → Int), e = .returned (.int .i64 (c' : Nat)) ∧ c' ≤ 255 ∧ (c' : Int) + ex' h = tot ∧ (∀ k, k ≠ h → ex' k = K.ex k) ∧ EngAt o w r p { K with ex := ex', st := st' } ps pt pz pp bw bk v w'
theorem Eng.cntOf (E : Eng o w r p K ps pt pz pp bw bk v) {h tot : Int} {st' : Int → Bool} {e : Ending} {w' : World} (H : CountPost o w (r + 17) pt K.lim K.ex K.st st' h tot e w') : CntAt o w r p K ps pt pz pp bw bk v h st' tot e w' := by
  obtain ⟨c', ex', h1, F, S, h2, h3, h4, h5⟩ := H
  obtain ⟨c, rfl⟩ := Int.eq_ofNat_of_zero_le h2
  exact ⟨c, ex', h1, by omega, h4, h5, o, F.mono (by omega) (by omega), E.spillT F S⟩
end
/-- Behind up. -/
def EUpPost (o : Own) (w : World) (r p : Nat) (K : EngK) (ps pt pz pp bw bk : Nat) (v : Value) (h : Int) (x : Ob) (e : Ending) (w' : World) : Prop :=
  ∃ (c' : Nat) (ex' : Int → Int), e = .returned (.tuple #[]) ∧ c' ≤ 255 ∧ (c' : Int) + ex' h = (if K.st h then x.cnt + K.ex h else x.cnt + K.ex h + 1) ∧ (∀ k, k ≠ h → ex' k = K.ex k) ∧
    EngAt o w r p { K with ob := updI K.ob h (some (setCnt x c')), ex := ex', st := updB K.st h (K.st h || decide (K.lim ≤ x.cnt + K.ex h + 1)), Z := (if x.cnt + K.ex h = 0 then updS K.Z h false else K.Z), Pu := (if x.cnt + K.ex h = 0 then updS K.Pu h true else K.Pu) } ps pt pz pp bw bk v w'
end Go.Proofs.Ytlpklloagaccoaa
