/- What DictKeeps keeps: rows of keys and values beside a dict. Conditions: fewer than 200 keys. -/
import Derived.Test.YtlpklloagaccoaaGreatDKeys
import Derived.Outline
namespace Go.Proofs.YtlpklloagaccoaaGreat
open Go.RowKit
set_option linter.unusedVariables false

/-- A dict has the keys K with the values V, all of them numbers. -/
def KI (o : Own) (w : World) (p a : Nat) (K V : List Int) : Prop :=
  ∃ ks vs, DL o w p a 100 ks vs K.length ∧ V.length = K.length ∧ (∀ j, j < K.length → ks j = (1, K.getD j 0) ∧ vs j = (1, V.getD j 0)) ∧ (∀ i j, i < j → j < K.length → K.getD i 0 ≠ K.getD j 0)
theorem KI.keep {lo hi : Nat} {o o' : Own} {w w' : World} {p a : Nat} {K V : List Int} (h : KI o w p a K V) (k : Fr lo hi o o' w w') (hr : 30 ≤ lo ∨ hi ≤ 1) : KI o' w' p a K V :=
  let ⟨ks, vs, G, M⟩ := h; ⟨ks, vs, G.keep k hr, M⟩
theorem vsame_int (a b : Int) : vsame 1 a 1 b = true ↔ a = b := by
  unfold vsame
  by_cases h : a = b <;> simp [h]
theorem getD_set_ne {l : List Int} {i j : Nat} {x : Int} (h : j ≠ i) : (l.set i x).getD j 0 = l.getD j 0 := by
  have h' : ¬ i = j := fun e => h e.symm
  simp [List.getD, h']
theorem getD_set_at {l : List Int} {i : Nat} {x : Int} (h : i < l.length) : (l.set i x).getD i 0 = x := by
  simp [List.getD, h]
theorem getD_app_lt {l : List Int} {i : Nat} {x : Int} (h : i < l.length) : (l ++ [x]).getD i 0 = l.getD i 0 := by
  simp [List.getD, List.getElem?_append_left h]
theorem getD_app_at {l : List Int} {i : Nat} {x : Int} (h : i = l.length) : (l ++ [x]).getD i 0 = x := by
  subst h; simp [List.getD]
theorem set_app_at (V : List Int) (x y : Int) : (V ++ [x]).set V.length y = V ++ [y] := by
  rw [List.set_append]; simp
/-- Where what is looked for is. -/
def HitK (K V : List Int) (x y : Int) (K' V' : List Int) : Prop :=
  (∃ j, j < K.length ∧ K.getD j 0 = x ∧ K' = K ∧ V' = V.set j y) ∨ ((∀ i, i < K.length → K.getD i 0 ≠ x) ∧ K' = K ++ [x] ∧ V' = V ++ [y])
section
variable {o : Own} {p a : Nat} {K V : List Int}
theorem kp_put (x y : Int) (K' V' : List Int) (w0 w1 : World) (F : Fr 0 0 o o w0 w1) (A : KI o w0 p a K V) (hx : in64 x) (hy : in64 y) (hl : K.length < 200) (hc : HitK K V x y K' V') :
    Calls Tryz.prog 44 #[.pointer (some ⟨p, 0, none⟩), .int .i64 (a : Nat), .agg #[.int .i64 1, .int .i64 x], .agg #[.int .i64 1, .int .i64 y]] w1 fun e w' => ∃ o', e = .returned (.int .i64 0) ∧ Fr 1 30 o o' w0 w' ∧ KI o' w' p a K' V' := by
  obtain ⟨ks, vs, G, hV, hk, hd⟩ := A
  refine (d_put (1, x) (1, y) w0 w1 F G (show 1 ≤ 2 by omega) hx (show 1 ≤ 2 by omega) hy (by omega)).mono fun e w' hh => ?_
  obtain ⟨i, o', FV, h1, F', hcase⟩ := hh
  have hsame : ∀ j, j < K.length → (vsame (ks j).1 (ks j).2 1 x = true ↔ K.getD j 0 = x) := fun j hj => by rw [(hk j hj).1]; exact vsame_int _ _
  refine ⟨o', h1, F', ?_⟩
  rcases hcase with ⟨hi, G'⟩ | ⟨hi, G'⟩
  · have hix := (hsame i hi).1 (FV.yes hi)
    rcases hc with ⟨j, hj, hjx, rfl, rfl⟩ | ⟨hno, _, _⟩
    · have hij : i = j := by
        rcases Nat.lt_trichotomy i j with h | h | h
        · exact absurd (hix.trans hjx.symm) (hd i j h hj)
        · exact h
        · exact absurd (hjx.trans hix.symm) (hd j i h hi)
      subst hij
      refine ⟨ks, updF vs i (1, y), G', by rw [List.length_set]; exact hV, fun j hj => ⟨(hk j hj).1, ?_⟩, hd⟩
      unfold updF
      by_cases e : j = i
      · subst e; rw [if_pos rfl, getD_set_at (by omega)]
      · rw [if_neg e, getD_set_ne e]; exact (hk j hj).2
    · exact absurd hix (hno i hi)
  · have hnx : ∀ j, j < K.length → K.getD j 0 ≠ x := fun j hj e => by
      have h2 : vsame (ks j).1 (ks j).2 1 x = false := FV.no j (by omega)
      rw [(hsame j hj).2 e] at h2
      cases h2
    rcases hc with ⟨j, hj, hjx, rfl, rfl⟩ | ⟨hno, rfl, rfl⟩
    · exact absurd hjx (hnx j hj)
    · have hl1 : (K ++ [x]).length = K.length + 1 := by simp
      refine ⟨updF ks K.length (1, x), updF vs K.length (1, y), by rw [hl1]; exact G', by simp [hV], fun j hj => ?_, fun i j hij hj => ?_⟩
      · rw [hl1] at hj
        unfold updF
        by_cases e : j = K.length
        · rw [if_pos e, if_pos e, getD_app_at e, getD_app_at (by omega)]; exact ⟨rfl, rfl⟩
        · rw [if_neg e, if_neg e, getD_app_lt (by omega), getD_app_lt (by omega)]; exact hk j (by omega)
      · rw [hl1] at hj
        by_cases e : j = K.length
        · rw [getD_app_at e, getD_app_lt (by omega)]; exact hnx i (by omega)
        · rw [getD_app_lt (by omega), getD_app_lt (by omega)]; exact hd i j hij (by omega)
theorem kp_get {j : Nat} (x : Int) (w0 w1 : World) (F : Fr 0 0 o o w0 w1) (A : KI o w0 p a K V) (hj : j < K.length) (hx : x = K.getD j 0) :
    Calls Tryz.prog 42 #[.pointer (some ⟨p, 0, none⟩), .int .i64 (a : Nat), .agg #[.int .i64 1, .int .i64 x]] w1 fun e w' => e = .returned (.tuple #[.agg #[.int .i64 1, .int .i64 (V.getD j 0)], .int .i64 0]) ∧ Fr 0 0 o o w0 w' := by
  subst hx
  obtain ⟨ks, vs, G, hV, hk, hd⟩ := A
  refine (d_get (1, K.getD j 0) w0 w1 F G (show 1 ≤ 2 by omega)).mono fun e w' hh => ?_
  obtain ⟨i, FV, h1, F'⟩ := hh
  have hsame : ∀ t, t < K.length → (vsame (ks t).1 (ks t).2 1 (K.getD j 0) = true ↔ K.getD t 0 = K.getD j 0) := fun t ht => by rw [(hk t ht).1]; exact vsame_int _ _
  have hi : i < K.length := by
    refine Nat.lt_of_not_le fun h => ?_
    have h2 : vsame (ks j).1 (ks j).2 1 (K.getD j 0) = false := FV.no j (by omega)
    rw [(hsame j hj).2 rfl] at h2
    cases h2
  have hix := (hsame i hi).1 (FV.yes hi)
  have hij : i = j := by
    rcases Nat.lt_trichotomy i j with h | h | h
    · exact absurd hix (hd i j h hj)
    · exact h
    · exact absurd hix.symm (hd j i h hi)
  subst hij
  refine ⟨?_, F'⟩
  rw [h1]
  unfold getA
  rw [if_pos hi, (hk i hi).2]
  rfl
theorem kp_len (w0 w1 : World) (F : Fr 0 0 o o w0 w1) (A : KI o w0 p a K V) :
    Calls Tryz.prog 46 #[.pointer (some ⟨p, 0, none⟩), .int .i64 (a : Nat)] w1 fun e w' => e = .returned (.tuple #[.int .i64 (K.length : Nat), .int .i64 0]) ∧ Fr 0 0 o o w0 w' := by
  obtain ⟨ks, vs, G, _⟩ := A
  exact d_len w0 w1 F G
/-- A row of values that are the numbers K. -/
def RowVals (w : World) (A : Option Addr) (K : List Int) : Prop :=
  0 < K.length → ∃ g, A = some ⟨g, 0, none⟩ ∧ g < w.heap.size ∧ ∀ j, j < K.length → w.cell? ⟨g, 2 * j, none⟩ = some (.int .i64 1) ∧ w.cell? ⟨g, 2 * j + 1, none⟩ = some (.int .i64 (K.getD j 0))
theorem RowVals.keep {w w' : World} {A : Option Addr} (h : RowVals w A K) (F : Fr 0 0 o o w w') : RowVals w' A K := fun h0 => by
  obtain ⟨g, h1, h2, h3⟩ := h h0
  exact ⟨g, h1, Nat.lt_of_lt_of_le h2 F.size, fun j hj => ⟨F.cell0 (h3 j hj).1, F.cell0 (h3 j hj).2⟩⟩
theorem kp_keys (w0 w1 : World) (F : Fr 0 0 o o w0 w1) (G : KI o w0 p a K V) :
    Calls Tryz.prog 45 #[.pointer (some ⟨p, 0, none⟩), .int .i64 (a : Nat)] w1 fun e w' => ∃ A cap, e = .returned (.tuple #[.slice A K.length cap, .int .i64 0]) ∧ Fr 0 0 o o w0 w' ∧ RowVals w' A K := by
  obtain ⟨ks, vs, ⟨⟨S, c, s, E, D, _, _⟩, _⟩, hV, hk, hd⟩ := G
  refine (dkeys w1 (by omega) F.fresh (E.keep F (.inr (Nat.zero_le _))) D).mono fun e w' hh => ?_
  obtain ⟨v, h1, F', R⟩ := hh
  rcases R.form with ⟨rfl, h0⟩ | ⟨g, cap, rfl, hg, hc⟩
  · refine ⟨none, 0, by rw [h1, h0], F.trans F', fun h => by omega⟩
  · refine ⟨_, cap, h1, F.trans F', fun _ => ⟨g, rfl, hg, fun j hj => ?_⟩⟩
    have := keysC_at ks hj
    rw [(hk j hj).1] at this
    exact ⟨hc _ _ this.1, hc _ _ this.2⟩
end
end Go.Proofs.YtlpklloagaccoaaGreat
