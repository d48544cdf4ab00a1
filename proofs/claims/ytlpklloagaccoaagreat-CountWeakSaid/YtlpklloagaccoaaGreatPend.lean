/- What is pending of an engine: slices.Clone, slices.Delete at rows. Conditions: the rows as they lie. -/
import Derived.Test.YtlpklloagaccoaaGreatShelf2
import Derived.Test.YtlpklloagaccoaaGreatRoom
import Derived.Test.YtlpklloagaccoaaGreatSl
import Derived.Outline
namespace Go.Proofs.YtlpklloagaccoaaGreat
open Go.RowKit
set_option linter.unusedVariables false

theorem RowB.putRow {w : World} {g cap : Nat} {xs : List Int} (h : RowB w g cap xs) (q : Nat) {ys : List Int} (hl : ys.length = xs.length) : RowB (Sort.putRow (Value.int .i64) (Sort.ahead w q) g 0 ys.toArray) g cap ys := by
  obtain ⟨cur, hb, hs, hle, hm, ht⟩ := h
  refine ⟨Sort.putCells (Value.int .i64) 0 ys.toArray cur, ?_, ?_, by omega, hm, ?_⟩
  · show (w.heap.modify g _)[g]? = _
    rw [Array.getElem?_modify, if_pos rfl, hb]
    rfl
  · unfold Sort.putCells; rw [Array.size_mapIdx]; exact hs
  · apply List.ext_getElem?
    intro i
    by_cases hi : i < ys.length
    · have hic : i < cur.size := by omega
      rw [List.getElem?_take_of_lt hi, Array.getElem?_toList]
      unfold Sort.putCells
      rw [Array.getElem?_mapIdx, Array.getElem?_eq_getElem hic, Option.map_some, if_pos ⟨Nat.zero_le _, by simpa using hi⟩]
      simp [hi]
    · rw [List.getElem?_take_eq_none (by omega), List.getElem?_eq_none (by simp; omega)]
theorem putRow_fr {o : Own} {w : World} {g r : Nat} (ho : Owned o w) (hg : o g = r) (q : Nat) (ys : Array Int) : Fr r (r + 1) o o w (Sort.putRow (Value.int .i64) (Sort.ahead w q) g 0 ys) := by
  refine ⟨rfl, rfl, rfl, ?_, fun b hb hr => ?_, fun _ _ => rfl, fun b hb => ho b ?_⟩
  · show w.heap.size ≤ (w.heap.modify g _).size
    rw [Array.size_modify]; exact Nat.le_refl _
  · show (w.heap.modify g _)[b]? = _
    rw [Array.getElem?_modify, if_neg (fun e => by subst e; omega)]
  · have : (w.heap.modify g (Sort.onCells (Sort.putCells (Value.int .i64) 0 ys))).size ≤ b := hb
    rw [Array.size_modify] at this; exact this
/-- slices.Delete(l, 0, 1). -/
theorem delete_first {o : Own} {w : World} {r g cap : Nat} {x : Int} {xs : List Int} (ho : Owned o w) (h : LRow o w r (.slice (some ⟨g, 0, none⟩) (x :: xs).length cap) (x :: xs)) :
    Calls Tryz.prog 125 #[.slice (some ⟨g, 0, none⟩) (x :: xs).length cap, .int .i64 0, .int .i64 1] w fun e w' => e = .returned (.slice (some ⟨g, 0, none⟩) xs.length cap) ∧ Fr r (r + 1) o o w w' ∧ LRow o w' r (.slice (some ⟨g, 0, none⟩) xs.length cap) xs := by
  obtain ⟨R, _⟩ := Row.rowB h.1
  have hg : o g = r := h.2 g rfl
  have hle : (x :: xs).length ≤ cap ∧ cap ≤ maxLen := by obtain ⟨cur, _, _, h1, h2, _⟩ := R; exact ⟨h1, h2⟩
  have hH : Sort.Holds (Value.int .i64) w g 0 (x :: xs).toArray := by
    intro j hj
    have hj' : j < (x :: xs).length := by simpa using hj
    rw [Nat.zero_add]
    refine ⟨(R.cell hj').trans ?_, R.free j⟩
    simp [List.getD]
  refine (AnyG.slices_Delete_int deleteI g 0 cap 0 1 (x :: xs) w hH hle.1 (by have := hle.2; unfold maxLen at this; omega) (by omega) (by simp)).mono fun e w' hh => ?_
  obtain ⟨h1, q, rfl⟩ := hh
  have hy : ((x :: xs).take 0 ++ (x :: xs).drop 1 ++ List.replicate (1 - 0) 0) = xs ++ [0] := rfl
  rw [hy]
  have R2 := R.putRow q (ys := xs ++ [0]) (by simp)
  have R3 := (R2.take (n := xs.length) (by simp)).row
  rw [List.take_left'] at R3
  · exact ⟨by simpa using h1, putRow_fr ho hg q _, R3, fun g' hg' => by cases hg'; exact hg⟩
  · rfl
/-- slices.Clone. -/
theorem clone_call {o : Own} {w : World} {r : Nat} {v : Value} {xs : List Int} (ho : Owned o w) (h : LRow o w r v xs) (hl : xs.length ≤ 1099511627776) :
    Calls Tryz.prog 124 #[v] w fun e w' => ∃ v', e = .returned v' ∧ Fr 0 0 o o w w' ∧ RowNew w o w' v' xs := by
  rcases h.1.form with ⟨rfl, rfl⟩ | ⟨g, cap, rfl, R⟩
  · refine (AnyG.slices_Clone_int_nil cloneI 0 0 w).mono fun e w' hh => ?_
    obtain ⟨h1, h2⟩ := hh
    subst h2
    exact ⟨_, h1, Fr.refl ho, RowNew.nil _ _ _⟩
  · refine (AnyG.slices_Clone_int cloneI g 0 xs.length cap xs w (Nat.le_refl _) (by omega) (fun j hj => by rw [Nat.zero_add]; exact R.cell hj)).mono fun e w' hh => ?_
    obtain ⟨v', h1, hrow, hne, hb⟩ := hh
    rw [List.take_length] at hrow
    refine ⟨v', h1, Fr.below (Fr.refl ho) hb, ⟨⟨?_, fun g' hg' => ?_⟩, fun g' hg' => ?_⟩⟩
    · obtain ⟨k1, k2⟩ := hrow
      refine ⟨k1, ?_⟩
      rcases k2 with k2 | ⟨g2, cap2, cur, hv, _, k3⟩
      · exact .inl k2
      · exact .inr ⟨g2, cap2, cur, hv, Nat.zero_le _, k3⟩
    all_goals
      rcases hrow.2 with ⟨rfl, _⟩ | ⟨g2, cap2, cur, rfl, hge, hblk, _⟩
      · cases hg'
      · simp only [Value.ownBlock, Option.some.injEq] at hg'
        subst hg'
        first | exact ho _ hge | exact hge
end Go.Proofs.YtlpklloagaccoaaGreat
