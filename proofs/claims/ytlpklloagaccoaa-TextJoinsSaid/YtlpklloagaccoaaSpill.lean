/- The table of what counts have above a header's (spill): its contracts. Conditions: counts from 0 to 255, handles that are places of words. -/
import Derived.Test.YtlpklloagaccoaaMaps
import Derived.Maps.Own
import Derived.Maps.OwnIn
import Derived.Maps.OwnOps
namespace Go.Proofs.Ytlpklloagaccoaa
open Go.RowKit
set_option linter.unusedVariables false

theorem zero_bool (w : World) : (zeroValue 4).run Try.prog w = .ok (.bool false) w := by kernel_rfl
theorem zero_int (w : World) : (zeroValue 3).run Try.prog w = .ok (.int .i64 0) w := by kernel_rfl

/-- A table: its block, its two maps. -/
structure Spill (o : Own) (w : World) (r p : Nat) (lim : Int) (ex : Int → Int) (st : Int → Bool) (b1 b2 : Nat) (f1 f2 : Int → Option Value) : Prop where
  blk : Blk o w r p (.cells #[.int .i64 lim, .map (some b1), .map (some b2)] 112 (0, 0))
  m1 : MapBlk o w (r + 1) b1 f1
  m2 : MapBlk o w (r + 2) b2 f2
  e1 : ∀ k, (f1 k).getD (.int .i64 0) = .int .i64 (ex k)
  e2 : ∀ k, (f2 k).getD (.bool false) = .bool (st k)
  lim1 : 1 ≤ lim ∧ lim ≤ 1073741824
  ex1 : ∀ k, 0 ≤ ex k ∧ ex k ≤ lim ∧ (st k = false → ex k < lim)
def SpillRep (o : Own) (w : World) (r p : Nat) (lim : Int) (ex : Int → Int) (st : Int → Bool) : Prop := ∃ b1 b2 f1 f2, Spill o w r p lim ex st b1 b2 f1 f2
theorem Spill.keep {lo hi : Nat} {o o' : Own} {w w' : World} {r p : Nat} {lim : Int} {ex : Int → Int} {st : Int → Bool} {b1 b2 : Nat} {f1 f2 : Int → Option Value} (h : Spill o w r p lim ex st b1 b2 f1 f2) (k : Fr lo hi o o' w w') (hr : r + 3 ≤ lo ∨ hi ≤ r) :
    Spill o' w' r p lim ex st b1 b2 f1 f2 :=
  ⟨h.blk.keep k (by omega), h.m1.keep k (by omega), h.m2.keep k (by omega), h.e1, h.e2, h.lim1, h.ex1⟩
theorem Spill.drewN {o : Own} {w : World} {r p : Nat} {lim : Int} {ex : Int → Int} {st : Int → Bool} {b1 b2 : Nat} {f1 f2 : Int → Option Value} (h : Spill o w r p lim ex st b1 b2 f1 f2) (n : Nat) : Spill o (w.drewN n) r p lim ex st b1 b2 f1 f2 :=
  ⟨h.blk, h.m1, h.m2, h.e1, h.e2, h.lim1, h.ex1⟩
theorem SpillRep.drewN {o : Own} {w : World} {r p : Nat} {lim : Int} {ex : Int → Int} {st : Int → Bool} (h : SpillRep o w r p lim ex st) (n : Nat) : SpillRep o (w.drewN n) r p lim ex st :=
  let ⟨b1, b2, f1, f2, s⟩ := h; ⟨b1, b2, f1, f2, s.drewN n⟩
theorem SpillRep.keep {lo hi : Nat} {o o' : Own} {w w' : World} {r p : Nat} {lim : Int} {ex : Int → Int} {st : Int → Bool} (h : SpillRep o w r p lim ex st) (k : Fr lo hi o o' w w') (hr : r + 3 ≤ lo ∨ hi ≤ r) : SpillRep o' w' r p lim ex st :=
  let ⟨b1, b2, f1, f2, s⟩ := h; ⟨b1, b2, f1, f2, s.keep k hr⟩

theorem Spill.look1 {o : Own} {w : World} {r p : Nat} {lim : Int} {ex : Int → Int} {st : Int → Bool} {b1 b2 : Nat} {f1 f2 : Int → Option Value} (h : Spill o w r p lim ex st b1 b2 f1 f2) (k : Int) :
    ∀ n, (Instr.lookup 110 (.map (some b1)) (.int .i64 k) false).run Try.prog (w.drewN n) = .ok (.int .i64 (ex k)) (w.drewN n) := fun n => by
  have := MapIs.lookup (w := w.drewN n) h.m1.2 Try.underlying110 Try.underlying3 zero_int false k
  rw [this]; simp [h.e1]
theorem Spill.look2 {o : Own} {w : World} {r p : Nat} {lim : Int} {ex : Int → Int} {st : Int → Bool} {b1 b2 : Nat} {f1 f2 : Int → Option Value} (h : Spill o w r p lim ex st b1 b2 f1 f2) (k : Int) :
    ∀ n, (Instr.lookup 76 (.map (some b2)) (.int .i64 k) false).run Try.prog (w.drewN n) = .ok (.bool (st k)) (w.drewN n) := fun n => by
  have := MapIs.lookup (w := w.drewN n) h.m2.2 Try.underlying76 Try.underlying3 zero_bool false k
  rw [this]; simp [h.e2]

/-- Behind a call on the table. -/
def SpillPost (o : Own) (w : World) (r p : Nat) (lim : Int) (v : Value) (ex : Int → Int) (st : Int → Bool) (e : Ending) (w' : World) : Prop :=
  e = .returned v ∧ Fr r (r + 3) o o w w' ∧ SpillRep o w' r p lim ex st

/-- The extras with one changed. -/
def upd (f : Int → Int) (k v : Int) : Int → Int := fun j => if j = k then v else f j
def updB (f : Int → Bool) (k : Int) (v : Bool) : Int → Bool := fun j => if j = k then v else f j
theorem Spill.set1 {o : Own} {w w1 : World} {r p : Nat} {lim : Int} {ex : Int → Int} {st : Int → Bool} {b1 b2 : Nat} {f1 f2 : Int → Option Value} (S : Spill o w r p lim ex st b1 b2 f1 f2) (h v : Int) (n1 : ¬ p = b1) (n3 : ¬ b1 = b2)
    (hm : MapIs w1 b1 (fun j => if j = h then some (.int .i64 v) else f1 j)) (ht : MapTurn w w1 b1) (hv : 0 ≤ v ∧ v ≤ lim ∧ (st h = false → v < lim)) : Spill o w1 r p lim (upd ex h v) st b1 b2 (fun j => if j = h then some (.int .i64 v) else f1 j) f2 :=
  ⟨S.blk.of_eq (ht.block _ n1), ⟨S.m1.1, hm⟩, ⟨S.m2.1, S.m2.2.of_eq (ht.block _ (fun e => n3 e.symm))⟩, fun k => by unfold upd; split <;> simp [S.e1], S.e2, S.lim1, fun k => by
    unfold upd
    by_cases hk : k = h
    · subst hk; simpa using hv
    · simpa [hk] using S.ex1 k⟩
theorem Spill.set2 {o : Own} {w w1 : World} {r p : Nat} {lim : Int} {ex : Int → Int} {st : Int → Bool} {b1 b2 : Nat} {f1 f2 : Int → Option Value} (S : Spill o w r p lim ex st b1 b2 f1 f2) (h : Int) (n2 : ¬ p = b2) (n3 : ¬ b1 = b2)
    (hm : MapIs w1 b2 (fun j => if j = h then some (.bool true) else f2 j)) (ht : MapTurn w w1 b2) : Spill o w1 r p lim ex (updB st h true) b1 b2 f1 (fun j => if j = h then some (.bool true) else f2 j) :=
  ⟨S.blk.of_eq (ht.block _ n2), ⟨S.m1.1, S.m1.2.of_eq (ht.block _ n3)⟩, ⟨S.m2.1, hm⟩, S.e1, fun k => by unfold updB; split <;> simp [S.e2], S.lim1, fun k => by
    unfold updB
    by_cases hk : k = h
    · subst hk; have := S.ex1 k; simp; omega
    · simpa [hk] using S.ex1 k⟩

/-- Behind Up, Down: the header's new count, and the extras, come to this whole count. -/
def CountPost (o : Own) (w : World) (r p : Nat) (lim : Int) (ex : Int → Int) (st st' : Int → Bool) (h tot : Int) (e : Ending) (w' : World) : Prop :=
  ∃ (c' : Int) (ex' : Int → Int), e = .returned (.int .i64 c') ∧ Fr r (r + 3) o o w w' ∧ SpillRep o w' r p lim ex' st' ∧ 0 ≤ c' ∧ c' ≤ 255 ∧ c' + ex' h = tot ∧ ∀ k, k ≠ h → ex' k = ex k

/-- Behind New: a new table. -/
def SpillNew (o : Own) (w : World) (r : Nat) (lim : Int) (e : Ending) (w' : World) : Prop :=
  ∃ p o', e = .returned (.pointer (some ⟨p, 0, none⟩)) ∧ Fr 0 0 o o' w w' ∧ SpillRep o' w' r p lim (fun _ => 0) (fun _ => false)
theorem spill_made {o : Own} (r : Nat) (lim : Int) (w : World) (ho : Owned o w) (h0 : 1 ≤ lim) (h1 : lim ≤ 1073741824) :
    ∃ o', Fr 0 0 o o' w (((w.alloc (.map #[] 0)).alloc (.map #[] 0)).alloc (.cells #[.int .i64 lim, .map (some w.heap.size), .map (some (w.heap.size + 1))] 112)) ∧
      SpillRep o' (((w.alloc (.map #[] 0)).alloc (.map #[] 0)).alloc (.cells #[.int .i64 lim, .map (some w.heap.size), .map (some (w.heap.size + 1))] 112)) r (w.heap.size + 1 + 1) lim (fun _ => 0) (fun _ => false) := by
  have F1 := (Fr.refl (lo := 0) (hi := 0) ho).give (.map #[] 0) (r + 1)
  have M1 : MapBlk _ _ _ _ _ := MapBlk.new (o := o) (w := w) (r + 1)
  have F2 := (Fr.refl (lo := 0) (hi := 0) F1.fresh).give (.map #[] 0) (r + 2)
  have M2 : MapBlk _ _ _ _ _ := MapBlk.new (o := o.give w.heap.size (r + 1)) (w := w.alloc (.map #[] 0)) (r + 2)
  have F3 := (Fr.refl (lo := 0) (hi := 0) F2.fresh).give (.cells #[.int .i64 lim, .map (some w.heap.size), .map (some (w.heap.size + 1))] 112) r
  have B := Blk.new (o := (o.give w.heap.size (r + 1)).give (w.alloc (.map #[] 0)).heap.size (r + 2)) (w := (w.alloc (.map #[] 0)).alloc (.map #[] 0)) (.cells #[.int .i64 lim, .map (some w.heap.size), .map (some (w.heap.size + 1))] 112) r
  have N1 := (M1.keep F2 (.inr (Nat.zero_le _))).keep F3 (.inr (Nat.zero_le _))
  have N2 := M2.keep F3 (.inr (Nat.zero_le _))
  simp only [World.size_alloc] at *
  exact ⟨_, (F1.trans F2).trans F3, _, _, _, _, B, N1, N2, fun _ => rfl, fun _ => rfl, ⟨h0, h1⟩, fun _ => by simp; omega⟩

set_option maxRecDepth 100000 in
set_option maxHeartbeats 400000 in
theorem spill_new {o : Own} (r : Nat) (lim : Int) (w : World) (ho : Owned o w) (h0 : 1 ≤ lim) (h1 : lim ≤ 1073741824) :
    Calls Try.prog 33 #[.int .i64 lim] w (SpillNew o w r lim) := by
  have hmm := @run_makeMap Try.prog
  have hmade := Lib.hid (spill_made (o := o) r lim w ho h0 h1)
  go_enter Try.func33, Try.ntmps33
  go_wp2
  · go_ret
    obtain ⟨o', hf, hs⟩ := hmade.out
    exact ⟨_, o', rfl, hf, hs⟩
  · go_ret
    obtain ⟨o', hf, hs⟩ := hmade.out
    obtain rfl : lim = 1 := by omega
    exact ⟨_, o', rfl, hf, hs⟩
end Go.Proofs.Ytlpklloagaccoaa
