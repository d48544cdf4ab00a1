/- A block is taken (arena.page, arena.great, arena.take). Conditions: nothing was freed. -/
import Derived.Test.YtlpklloagaccoaaPage
namespace Go.Proofs.Ytlpklloagaccoaa
open Go.RowKit
set_option linter.unusedVariables false

theorem OnlyBlk.fr {o : Own} {w w' : World} {g lo hi : Nat} (h : OnlyBlk w w' g) (ho : Owned o w) (hg : lo ≤ o g ∧ o g < hi) : Fr lo hi o o w w' :=
  ⟨h.os, h.tape, h.output, Nat.le_of_eq h.size.symm, fun b hb hr => h.block b (fun e => by subst e; omega), fun _ _ => rfl, fun b hb => ho b (by rw [← h.size]; exact hb)⟩
/-- A block's own words turn. -/
theorem Arena.reblk {o : Own} {w w' : World} {r p : Nat} {S : ArS} {g q l b : Nat} {v : Nat → Value} {f : Int → Option Nat} (A : Arena o w r p S g q l b v f) (ho : Owned o w) {k : Int} {a : Nat} (hf : f k = some a) (x : Bl) (h : OnlyBlk w w' a) (hx : w'.heap[a]? = some (.cells (blCells x) 63 (0, 0))) :
    Fr r (r + 15) o o w w' ∧ Arena o w' r p { S with bl := updI S.bl k (some x) } g q l b v f := by
  obtain ⟨y, hy, B⟩ := A.bsome k a hf
  have hoa := B.1
  have F : Fr (r + 3) (r + 4) o o w w' := h.fr ho (by omega)
  refine ⟨F.mono (by omega) (by omega), A.blk.keep F (by omega), A.gown, A.ws.of_eq (F.block g A.ws.lt (by rw [A.gown]; omega)), A.mlt, A.map.keep F (by omega), fun j hj => ?_, fun j c hj => ?_, A.inj,
    fun c hc => ((A.row c hc).keepA (A.rown c hc) F (by omega)).1, A.rown, A.pages.keep F (by omega), A.line.keep F (by omega), A.n1⟩
  · show updI S.bl k _ j = none
    unfold updI
    rw [if_neg (fun e => by rw [e, hf] at hj; cases hj)]
    exact A.bnone j hj
  · show ∃ y, updI S.bl k _ j = some y ∧ _
    unfold updI
    by_cases hjk : j = k
    · subst hjk
      rw [hf] at hj; cases hj
      rw [if_pos rfl]
      exact ⟨x, rfl, hoa, hx⟩
    · rw [if_neg hjk]
      obtain ⟨z, h1, h2⟩ := A.bsome j c hj
      exact ⟨z, h1, h2.of_eq (h.block c fun e => hjk (A.inj j k c hj (by rw [hf, e])))⟩
/-- The words turn. -/
theorem Arena.rewords {o : Own} {w w' : World} {r p : Nat} {S : ArS} {g q l b : Nat} {v : Nat → Value} {f : Int → Option Nat} (A : Arena o w r p S g q l b v f) (ho : Owned o w) {m : Nat → Nat} (h : OnlyBlk w w' g) (hw : WordsB w' g (S.n * 64) m) (hm : ∀ i, m i < 2 ^ 64) :
    Fr r (r + 15) o o w w' ∧ Arena o w' r p { S with m := m } g q l b v f := by
  have F : Fr (r + 1) (r + 2) o o w w' := h.fr ho (by have := A.gown; omega)
  exact ⟨F.mono (by omega) (by omega), A.blk.keep F (by omega), A.gown, hw, hm, A.map.keep F (by omega), A.bnone, fun y a hy => let ⟨z, h1, h2⟩ := A.bsome y a hy; ⟨z, h1, h2.keep F (by omega)⟩, A.inj,
    fun c hc => ((A.row c hc).keepA (A.rown c hc) F (by omega)).1, A.rown, A.pages.keep F (by omega), A.line.keep F (by omega), A.n1⟩
end Go.Proofs.Ytlpklloagaccoaa
