/- An object goes (object.Drop). Conditions: the space is as one that was made. -/
import Derived.Test.YtlpklloagaccoaaGreatAFree
import Derived.Test.YtlpklloagaccoaaGreatObSet
import Derived.Outline
namespace Go.Proofs.YtlpklloagaccoaaGreat
open Go.RowKit
set_option linter.unusedVariables false

theorem SpOk.freed {S : ArS} {ob : Int → Option Ob} (h : SpOk ⟨S, ob⟩) {k : Int} {x : Bl} {a : Nat} (hx : S.bl k = some x) (ha : k = a) {S' : ArS} (F : Freed S k a x.size S') : SpOk ⟨S', updI ob k none⟩ := by
  have hne : ∀ j y, S.bl j = some y → j ≠ k → ∀ i : Nat, j ≤ (i : Int) → (i : Int) < j + (y.size : Int) → ¬ (a ≤ i ∧ i < a + x.size) := fun j y hy hj i h1 h2 h3 => by
    rcases Int.lt_or_gt_of_ne hj with hlt | hlt
    · have := h.ok.disj _ _ _ _ hy hx hlt; omega
    · have := h.ok.disj _ _ _ _ hx hy hlt; omega
  refine ⟨F.ok h.ok hx rfl, fun j y hj => ?_, fun j y hj hs => ?_, fun j y hj hs i h1 h2 => ?_⟩
  · have hj' : updI ob k none j = some y := hj
    unfold updI at hj'
    by_cases e : j = k
    · rw [if_pos e] at hj'; cases hj'
    · rw [if_neg e] at hj'
      obtain ⟨b, sz, e1, e2, e3⟩ := h.loc j y hj'
      have e2' : S.bl j = _ := e2
      obtain ⟨_, _, _, _, e4, _⟩ := h.ok.nat _ _ e2
      simp only at e4
      refine ⟨b, sz, e1, (F.oth j e).trans e2', e3.congr fun i h1 h2 => F.m i (hne j _ e2' e i (by omega) (by simp only; omega))⟩
  · by_cases e : j = k
    · subst e
      have := (F.at_ y hj).1
      omega
    · have hj' : S.bl j = some y := (F.oth j e).symm.trans hj
      obtain ⟨z, hz⟩ := h.all j y hj' hs
      exact ⟨z, by show updI ob k none j = _; unfold updI; rw [if_neg e]; exact hz⟩
  · by_cases e : j = k
    · subst e
      have := (F.at_ y hj).1
      omega
    · have hj' : S.bl j = some y := (F.oth j e).symm.trans hj
      show S'.m i = _
      have h4 : S.m i = canW (i : Int) := h.can j y hj' hs i h1 h2
      rw [F.m i (hne j y hj' e i (by omega) h2)]
      exact h4
theorem AlOf.freed {L : Al} {S S' : ArS} (h : AlOf L S) {k : Int} {a sz : Nat} (F : Freed S k a sz S') : AlOf (shutL L) S' :=
  ⟨F.n.trans h.n, F.t.trans h.t, F.cur.trans h.cur, fun e => (by cases e), fun _ => F.rows⟩
set_option maxRecDepth 100000 in
set_option maxHeartbeats 1000000 in
theorem odrop_yes {o : Own} {r p : Nat} {L : Al} {ob : Int → Option Ob} (h : Int) (x : Ob) (w : World) (ho : Owned o w) (S : SpaceRep o w r p L ob) (hx : ob h = some x) :
    Calls Tryz.prog 63 #[.pointer (some ⟨p, 0, none⟩), .int .i64 h] w (SpPost o w r p (shutL L) (updI ob h none) (.int .i64 0)) := by
  have HHd := Lib.hid (fun (w1 : World) (F : Fr 0 0 o o w w1) => show Calls Tryz.prog 54 #[.pointer (some ⟨p, 0, none⟩), .int .i64 h] w1 fun e w' => ∃ (col2 : Nat) (z2 : Bool), e = .returned (.tuple #[hdV x.kind x.cells x.raw x.cnt col2 z2 false, .int .i64 0]) ∧ Fr 0 0 o o w w' from
    (ohead_yes h x w1 F.fresh (S.keep F (.inr (Nat.zero_le _))) hx).mono fun e w' h => by
      obtain ⟨c2, z2, _, h1, h2⟩ := h
      exact ⟨c2, z2, h1, F.below h2⟩)
  obtain ⟨pa, A, S⟩ := S
  obtain ⟨a, sz, ha, hbl, hat⟩ := S.ok.loc h x hx
  have hbl' : A.bl h = some ⟨sz, wordsN x.cells x.raw, 1⟩ := hbl
  have HFr := Lib.hid (fun (w1 : World) (F : Fr 0 0 o o w w1) => show Calls Tryz.prog 115 #[.pointer (some ⟨pa, 0, none⟩), .int .i64 h] w1 fun e w' => e = .returned (.int .i64 0) ∧ ∃ o', Fr r (r + 16) o o' w w' ∧ SpaceRep o' w' r p (shutL L) (updI ob h none) from
    (afree_yes h a ⟨sz, wordsN x.cells x.raw, 1⟩ w1 F.fresh (S.ar.keep F (.inr (Nat.zero_le _))) S.ok.ok S.al.rowsOk ha hbl' rfl (fun i h1 h2 => S.ok.can h _ hbl rfl i (by simp only; simp only at h1; omega) (by simp only; simp only at h2; omega))).mono fun e w' hh => by
      obtain ⟨h1, o', S', F2, A2, Fd⟩ := hh
      exact ⟨h1, o', (F.none r (r + 16)).trans (F2.mono (by omega) (by omega)), pa, S', (S.blk.keep F (.inr (Nat.zero_le _))).keep F2 (by omega), A2, S.ok.freed hbl' ha Fd, S.al.freed Fd⟩)
  have c0 := S.c0
  have hpl := S.blk.lt
  have HO := Lib.hid ho
  clear S ha hbl hbl' hat hx ho
  go_enter Tryz.func63, Tryz.ntmps63
  go_wp2_with fail
  go_at_call 54
  refine (HHd.out _ (by repeat (first | exact Fr.refl HO.out | refine Fr.drew ?_ | refine Fr.alloc ?_ _))).mono ?_
  rintro e w1 ⟨col, z, rfl, F1⟩
  have c1 := F1.cell0 c0
  have hp1 : p < w1.heap.size := Nat.lt_of_lt_of_le hpl F1.size
  have HF1 := Lib.hid F1
  clear F1 c0
  go_wp2_with fail
  go_at_call 115
  refine (HFr.out _ (by repeat (first | exact HF1.out | refine Fr.drew ?_ | refine Fr.alloc ?_ _ | refine Fr.setCell ?_ _ _ (.inr (by have := HF1.out.size; omega))))).mono ?_
  rintro e w2 ⟨rfl, o2, F2, S2⟩
  have H2 := Lib.hid (And.intro F2 S2)
  clear F2 S2
  go_wp2_with fail
  go_ret
  exact ⟨rfl, o2, H2.out.1, H2.out.2⟩
end Go.Proofs.YtlpklloagaccoaaGreat
