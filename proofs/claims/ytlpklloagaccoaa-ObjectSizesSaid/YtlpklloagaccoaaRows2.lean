/- Plain facts on heaps of rising numbers: in which order they go. No condition. -/
import Derived.Test.YtlpklloagaccoaaHeapPop
import Derived.Test.YtlpklloagaccoaaSizes
namespace Go.Proofs.Ytlpklloagaccoaa
open Go.RowKit
set_option linter.unusedVariables false

theorem getD_map_lt {f : Int → Int} {xs : List Int} {i : Nat} (h : i < xs.length) : (xs.map f).getD i 0 = f (xs.getD i 0) := by simp [List.getD, h]
theorem swapL_map (f : Int → Int) (xs : List Int) {i j : Nat} (hi : i < xs.length) (hj : j < xs.length) : swapL (xs.map f) i j = (swapL xs i j).map f := by
  unfold swapL
  rw [getD_map_lt hi, getD_map_lt hj, List.map_set, List.map_set]
theorem pickJ_map {f : Int → Int} (hf : ∀ a b, f a < f b ↔ a < b) (xs : List Int) (i n : Nat) (hn : n ≤ xs.length) : pickJ (xs.map f) i n = pickJ xs i n := by
  unfold pickJ
  by_cases h : 2 * i + 2 < n
  · simp only [getD_map_lt (show 2 * i + 2 < xs.length by omega), getD_map_lt (show 2 * i + 1 < xs.length by omega), hf]
  · rw [if_neg (fun e => h e.1), if_neg (fun e => h e.1)]
theorem downL_map {f : Int → Int} (hf : ∀ a b, f a < f b ↔ a < b) : ∀ (k : Nat) (xs : List Int) (i n : Nat), n ≤ xs.length → downL k (xs.map f) i n = (downL k xs i n).map f
  | 0, _, _, _, _ => rfl
  | k + 1, xs, i, n, hn => by
    rw [downL_succ, downL_succ, pickJ_map hf xs i n hn]
    by_cases h : n ≤ 2 * i + 1
    · rw [if_pos h, if_pos h]
    · have hp : pickJ xs i n < n := by unfold pickJ; split <;> omega
      rw [if_neg h, if_neg h]
      simp only [getD_map_lt (show pickJ xs i n < xs.length by omega), getD_map_lt (show i < xs.length by omega), hf]
      by_cases h2 : xs.getD (pickJ xs i n) 0 < xs.getD i 0
      · rw [if_pos h2, if_pos h2, swapL_map f xs (by omega) (by omega)]
        exact downL_map hf k _ _ n (by rw [swapL_length]; exact hn)
      · rw [if_neg h2, if_neg h2]
theorem popL_map {f : Int → Int} (hf : ∀ a b, f a < f b ↔ a < b) (xs : List Int) : popL (xs.map f) = (popL xs).map f := by
  cases xs with
  | nil => rfl
  | cons x xs =>
    unfold popL
    rw [List.length_map, swapL_map f _ (by simp) (by simp), downL_map hf _ _ _ _ (by rw [swapL_length]; simp), List.map_take]
/-- Behind j pops. -/
def popN : Nat → List Int → List Int
  | 0, xs => xs
  | j + 1, xs => popL (popN j xs)
theorem popN_length : ∀ (j : Nat) (xs : List Int), (popN j xs).length = xs.length - j
  | 0, _ => rfl
  | j + 1, xs => by
    show (popL (popN j xs)).length = _
    rw [popL_length, popN_length j xs]; omega
theorem popN_map {f : Int → Int} (hf : ∀ a b, f a < f b ↔ a < b) (xs : List Int) : ∀ j, popN j (xs.map f) = (popN j xs).map f
  | 0 => rfl
  | j + 1 => by
    show popL (popN j (xs.map f)) = (popL (popN j xs)).map f
    rw [popN_map hf xs j, popL_map hf]
def seq0 (k : Nat) : List Int := (List.range k).map fun (i : Nat) => (i : Int)
theorem seq0_length (k : Nat) : (seq0 k).length = k := by simp [seq0]
/-- Numbers that rise by steps. -/
def seqL (base size k : Nat) : List Int := (seq0 k).map fun x => (base : Int) + x * size
theorem seqL_length (base size k : Nat) : (seqL base size k).length = k := by simp [seqL, seq0]
theorem seqL_succ (base size k : Nat) : seqL base size (k + 1) = seqL base size k ++ [((base + k * size : Nat) : Int)] := by
  simp [seqL, seq0, List.range_succ]
theorem seqL_getD (base size k : Nat) {i : Nat} (h : i < k) : (seqL base size k).getD i 0 = ((base + i * size : Nat) : Int) := by
  simp [seqL, seq0, List.getD, h]
/-- How many blocks of a class stand in a page; how long they are. -/
def perN (c : Nat) : Nat := 32 / 2 ^ c
def lenN (c : Nat) : Nat := 2 ^ (c + 1)
theorem cls_cases {c : Nat} (h : c < 5) : (c = 0 ∨ c = 1 ∨ c = 2 ∨ c = 3 ∨ c = 4) := by omega
theorem per_len {c : Nat} (h : c < 5) : perN c * lenN c = 64 ∧ 2 ≤ perN c ∧ perN c ≤ 32 ∧ 2 ≤ lenN c ∧ lenN c ≤ 32 := by
  rcases cls_cases h with rfl | rfl | rfl | rfl | rfl <;> decide
theorem head0 {c : Nat} (h : c < 5) {j : Nat} (hj : j < perN c) : (popN j (seq0 (perN c))).getD 0 0 = (j : Int) := by
  have H : ∀ c, c < 5 → ∀ j, j < perN c → (popN j (seq0 (perN c))).getD 0 0 = (j : Int) := by decide +kernel
  exact H c h j hj
/-- The row of a class from whose page j are gone. -/
def rowAt (c pg j : Nat) : List Int := popN j (seqL (pg * 64) (lenN c) (perN c))
theorem rowAt_length (c pg j : Nat) : (rowAt c pg j).length = perN c - j := by unfold rowAt; rw [popN_length, seqL_length]
theorem rowAt_head {c : Nat} (h : c < 5) (pg : Nat) {j : Nat} (hj : j < perN c) : (rowAt c pg j).getD 0 0 = ((pg * 64 + j * lenN c : Nat) : Int) := by
  have hl := per_len h
  have hf : ∀ a b : Int, ((pg * 64 : Nat) : Int) + a * (lenN c : Nat) < ((pg * 64 : Nat) : Int) + b * (lenN c : Nat) ↔ a < b := fun a b => by
    constructor
    · intro h
      have h2 : a * (lenN c : Nat) < b * (lenN c : Nat) := by omega
      exact Int.lt_of_mul_lt_mul_right h2 (by omega)
    · intro h
      have := Int.mul_lt_mul_of_pos_right h (show (0 : Int) < (lenN c : Nat) by omega)
      omega
  unfold rowAt seqL
  rw [popN_map hf, getD_map_lt (by rw [popN_length, seq0_length]; omega), head0 h hj]
  simp
theorem rowAt_pop (c pg j : Nat) : popL (rowAt c pg j) = rowAt c pg (j + 1) := rfl
theorem rowAt_zero (c pg : Nat) : rowAt c pg 0 = seqL (pg * 64) (lenN c) (perN c) := rfl
theorem rowAt_none (c pg : Nat) : rowAt c pg (perN c) = [] := List.eq_nil_of_length_eq_zero (by rw [rowAt_length]; omega)
theorem seqL_noUp (base size k : Nat) (h : 0 < size) : NoUp (seqL base size k ++ [((base + k * size : Nat) : Int)]) k := by
  rw [← seqL_succ]
  unfold NoUp
  by_cases h0 : k = 0
  · exact .inl h0
  · refine .inr ?_
    rw [seqL_getD _ _ _ (by omega), seqL_getD _ _ _ (by omega)]
    have := Nat.mul_le_mul_right size (show (k - 1) / 2 ≤ k by omega)
    omega
/-- Sizes by class. -/
theorem class_le (n : Nat) : classN n ≤ 5 := by unfold classN; split <;> (try split) <;> (try split) <;> (try split) <;> (try split) <;> omega
theorem size_small {n : Nat} (h : classN n < 5) : sizeN n = lenN (classN n) ∧ n < sizeN n := by
  unfold classN at h
  unfold sizeN classN lenN
  by_cases h1 : n < 2
  · simp only [h1, if_true]; exact ⟨by decide, by first | trivial | omega⟩
  · by_cases h2 : n < 4
    · simp only [h1, h2, if_true, if_false]; exact ⟨by decide, by first | trivial | omega⟩
    · by_cases h3 : n < 8
      · simp only [h1, h2, h3, if_true, if_false]; exact ⟨by decide, by first | trivial | omega⟩
      · by_cases h4 : n < 16
        · simp only [h1, h2, h3, h4, if_true, if_false]; exact ⟨by decide, by first | trivial | omega⟩
        · by_cases h5 : n < 32
          · simp only [h1, h2, h3, h4, h5, if_true, if_false]; exact ⟨by decide, by first | trivial | omega⟩
          · simp [h1, h2, h3, h4, h5] at h
theorem size_large {n : Nat} (h : classN n = 5) : sizeN n = 64 * (n / 64 + 1) ∧ 32 ≤ n := by
  unfold classN at h
  by_cases h1 : n < 2
  · simp [h1] at h
  · by_cases h2 : n < 4
    · simp [h1, h2] at h
    · by_cases h3 : n < 8
      · simp [h1, h2, h3] at h
      · by_cases h4 : n < 16
        · simp [h1, h2, h3, h4] at h
        · by_cases h5 : n < 32
          · simp [h1, h2, h3, h4, h5] at h
          · unfold sizeN; simp [h1, h2, h3, h4, h5]; omega
theorem Row.keepA {lo hi r : Nat} {o o' : Own} {w w' : World} {v : Value} {xs : List Int} (h : Row w v xs) (hw : ∀ g, v.ownBlock = some g → o g = r) (k : Fr lo hi o o' w w') (hr : r < lo ∨ hi ≤ r) : Row w' v xs ∧ ∀ g, v.ownBlock = some g → o' g = r := by
  rcases h.form with ⟨rfl, rfl⟩ | ⟨g, cap, rfl, R⟩
  · exact ⟨Row.nil _, fun g hg => by cases hg⟩
  · have hg := hw g rfl
    exact ⟨(R.of_eq (k.block g R.lt (by rw [hg]; exact hr))).row, fun g' hg' => by
      simp only [Value.ownBlock, Option.some.injEq] at hg'
      subst hg'
      exact (k.own g R.lt).trans hg⟩
end Go.Proofs.Ytlpklloagaccoaa
