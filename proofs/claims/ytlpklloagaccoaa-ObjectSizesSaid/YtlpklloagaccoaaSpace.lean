/- A space of objects: what lies where of it, in plain words; what may be given out. No condition. -/
import Derived.Test.YtlpklloagaccoaaTook
namespace Go.Proofs.Ytlpklloagaccoaa
open Go.RowKit
set_option linter.unusedVariables false

/-- What is left to give out: pages, a mark, the rows; whether nothing was freed. -/
structure Al where
  n : Nat
  t : Nat
  cur : Nat → Nat × Nat
  ok : Bool
def tookL (L : Al) (n : Nat) : Option (Al × Nat) :=
  if classN n = 5 then (if L.t + (n / 64 + 1) ≤ L.n then some ({ L with t := L.t + (n / 64 + 1) }, L.t * 64) else none)
  else if (L.cur (classN n)).2 < perN (classN n) then some ({ L with cur := updF L.cur (classN n) ((L.cur (classN n)).1, (L.cur (classN n)).2 + 1) }, (L.cur (classN n)).1 * 64 + (L.cur (classN n)).2 * lenN (classN n))
  else if L.t + 1 ≤ L.n then some ({ L with t := L.t + 1, cur := updF L.cur (classN n) (L.t, 1) }, L.t * 64) else none
structure AlOf (L : Al) (S : ArS) : Prop where
  n : S.n = L.n
  t : S.t = L.t
  cur : S.cur = L.cur
  ok : L.ok = true → Fresh S
theorem AlOf.alloc {L : Al} {S : ArS} (h : AlOf L S) (hok : L.ok = true) (n : Nat) :
    (tookL L n = none ∧ allocS S n = none) ∨ ∃ L' T a, tookL L n = some (L', a) ∧ allocS S n = some (T, a) ∧ AlOf L' T ∧ L'.ok = true ∧ L'.n = L.n := by
  have hF := h.ok hok
  have K : ∀ T a, allocS S n = some (T, a) → Fresh T := fun T a e => (allocS_spec hF e).fresh
  revert K
  unfold allocS tookS tookL
  rw [← h.n, ← h.t, ← h.cur]
  by_cases h5 : classN n = 5
  · rw [if_pos h5, if_pos h5]
    by_cases hf : S.t + (n / 64 + 1) ≤ S.n
    · rw [if_pos hf, if_pos hf]
      intro K
      exact .inr ⟨_, _, _, rfl, rfl, ⟨rfl, rfl, rfl, fun _ => K _ _ rfl⟩, hok, rfl⟩
    · rw [if_neg hf, if_neg hf]
      intro _; exact .inl ⟨rfl, rfl⟩
  · rw [if_neg h5, if_neg h5]
    by_cases hj : (S.cur (classN n)).2 < perN (classN n)
    · rw [if_pos hj, if_pos hj]
      intro K
      exact .inr ⟨_, _, _, rfl, rfl, ⟨rfl, rfl, rfl, fun _ => K _ _ rfl⟩, hok, rfl⟩
    · rw [if_neg hj, if_neg hj]
      by_cases hf : S.t + 1 ≤ S.n
      · rw [if_pos hf, if_pos hf]
        intro K
        refine .inr ⟨_, _, _, rfl, rfl, ⟨rfl, rfl, ?_, fun _ => K _ _ rfl⟩, hok, rfl⟩
        show updF (updF S.cur _ _) _ _ = updF S.cur _ _
        rw [updF_twice]
        congr 1
        show ((updF S.cur (classN n) (S.t, 0) (classN n)).1, (updF S.cur (classN n) (S.t, 0) (classN n)).2 + 1) = _
        unfold updF
        rw [if_pos rfl]
      · rw [if_neg hf, if_neg hf]
        intro _; exact .inl ⟨rfl, rfl⟩
structure Space (o : Own) (w : World) (r p : Nat) (L : Al) (ob : Int → Option Ob) (pa : Nat) (S : ArS) : Prop where
  blk : Blk o w r p (.cells #[.pointer (some ⟨pa, 0, none⟩)] 51 (0, 0))
  ar : ArenaRep o w (r + 1) pa S
  ok : SpOk ⟨S, ob⟩
  al : AlOf L S
def SpaceRep (o : Own) (w : World) (r p : Nat) (L : Al) (ob : Int → Option Ob) : Prop := ∃ pa S, Space o w r p L ob pa S
theorem Space.keep {lo hi : Nat} {o o' : Own} {w w' : World} {r p : Nat} {L : Al} {ob : Int → Option Ob} {pa : Nat} {S : ArS} (h : Space o w r p L ob pa S) (k : Fr lo hi o o' w w') (hr : r + 16 ≤ lo ∨ hi ≤ r) : Space o' w' r p L ob pa S :=
  ⟨h.blk.keep k (by omega), h.ar.keep k (by omega), h.ok, h.al⟩
theorem SpaceRep.keep {lo hi : Nat} {o o' : Own} {w w' : World} {r p : Nat} {L : Al} {ob : Int → Option Ob} (h : SpaceRep o w r p L ob) (k : Fr lo hi o o' w w') (hr : r + 16 ≤ lo ∨ hi ≤ r) : SpaceRep o' w' r p L ob :=
  let ⟨pa, S, s⟩ := h; ⟨pa, S, s.keep k hr⟩
theorem Space.c0 {o : Own} {w : World} {r p : Nat} {L : Al} {ob : Int → Option Ob} {pa : Nat} {S : ArS} (h : Space o w r p L ob pa S) : w.cell? ⟨p, 0, none⟩ = some (.pointer (some ⟨pa, 0, none⟩)) := h.blk.cell 0
end Go.Proofs.Ytlpklloagaccoaa
