/- What waits (line.Line), with nothing waiting and a budget of nothing: New. -/
import Derived.Test.YtlpklloagaccoaaTake
namespace Go.Proofs.Ytlpklloagaccoaa
open Go.RowKit
set_option linter.unusedVariables false

/-- Nothing waits; what there is of the row is the line's own. -/
structure Line0 (o : Own) (w : World) (r p : Nat) (v : Value) : Prop where
  blk : Blk o w r p (.cells #[.int .i64 0, .int .i64 0, v] 126 (0, 0))
  row : v = .slice none 0 0 ∨ ∃ g a c cs, v = .slice (some ⟨g, a, none⟩) 0 c ∧ Blk o w (r + 1) g (.cells cs 143 (0, 0)) ∧ a + 2 * c ≤ cs.size ∧ c ≤ maxLen
def LineRep (o : Own) (w : World) (r p : Nat) : Prop := ∃ v, Line0 o w r p v
theorem LineRep.keep {lo hi : Nat} {o o' : Own} {w w' : World} {r p : Nat} (h : LineRep o w r p) (k : Fr lo hi o o' w w') (hr : r + 2 ≤ lo ∨ hi ≤ r) : LineRep o' w' r p := by
  obtain ⟨v, h1, h2⟩ := h
  refine ⟨v, h1.keep k (by omega), ?_⟩
  rcases h2 with h2 | ⟨g, a, c, cs, hv, hb, h3, h4⟩
  · exact .inl h2
  · exact .inr ⟨g, a, c, cs, hv, hb.keep k (by omega), h3, h4⟩
def LineNew (o : Own) (w : World) (r : Nat) (e : Ending) (w' : World) : Prop :=
  ∃ p o', e = .returned (.pointer (some ⟨p, 0, none⟩)) ∧ Fr r (r + 2) o o' w w' ∧ LineRep o' w' r p
theorem line_made {o : Own} {w : World} (ho : Owned o w) (r : Nat) :
    LineNew o w r (.returned (.pointer (some ⟨w.heap.size, 0, none⟩))) (w.alloc (.cells #[.int .i64 0, .int .i64 0, .slice none 0 0] 126)) :=
  ⟨_, _, rfl, (Fr.refl (lo := r) (hi := r + 2) ho).give _ r, _, Blk.new _ r, .inl rfl⟩
theorem line_new {o : Own} (r : Nat) (w : World) (ho : Owned o w) : Calls Try.prog 44 #[.int .i64 0] w (LineNew o w r) := by
  have H := Lib.hid (line_made (w := w) ho r)
  go_enter Try.func44, Try.ntmps44
  go_wp2
  go_ret
  exact H.out
end Go.Proofs.Ytlpklloagaccoaa
