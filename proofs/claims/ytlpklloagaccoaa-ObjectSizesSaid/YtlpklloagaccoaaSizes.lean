/- Sizes of blocks. Conditions: numbers in range. -/
import Derived.Test.YtlpklloagaccoaaWords
namespace Go.Proofs.Ytlpklloagaccoaa
open Go.RowKit
set_option linter.unusedVariables false

/-- The place of a size, and it. -/
def classN (n : Nat) : Nat := if n < 2 then 0 else if n < 4 then 1 else if n < 8 then 2 else if n < 16 then 3 else if n < 32 then 4 else 5
def sizeN (n : Nat) : Nat := if n < 2 then 2 else if n < 4 then 4 else if n < 8 then 8 else if n < 16 then 16 else if n < 32 then 32 else 64 * (n / 64 + 1)
theorem spages_any (n : Nat) (w : World) (h0 : 1 ≤ n) (h : n < 1099511627776) : Calls Try.prog 63 #[.int .i64 (n : Nat)] w fun e w' => e = .returned (.int .i64 (n / 64 + 1 : Nat)) ∧ w = w' := by
  have e1 : ((n : Nat) : Int).tdiv 64 = (n / 64 : Nat) := by rw [Int.tdiv_eq_ediv_of_nonneg (by omega)]; omega
  go_enter Try.func63, Try.ntmps63
  go_wp2
  all_goals
    go_ret
    refine ⟨ret_int ?_, rfl⟩
    omega
def SizeStep (n k s : Nat) : Prop := (k = 0 ∧ s = 2) ∨ (k = 1 ∧ s = 4 ∧ 2 ≤ n) ∨ (k = 2 ∧ s = 8 ∧ 4 ≤ n) ∨ (k = 3 ∧ s = 16 ∧ 8 ≤ n) ∨ (k = 4 ∧ s = 32 ∧ 16 ≤ n) ∨ (k = 5 ∧ s = 64 ∧ 32 ≤ n)
theorem SizeStep.next {n k s : Nat} (h : SizeStep n k s) (h1 : s ≤ 32) (h2 : s ≤ n) : SizeStep n (k + 1) (s * 2) := by
  unfold SizeStep at *; omega
theorem SizeStep.here {n k s : Nat} (h : SizeStep n k s) (h1 : s ≤ 32) (h2 : n < s) : classN n = k ∧ sizeN n = s := by
  unfold SizeStep at h; unfold classN sizeN
  rcases h with ⟨rfl, rfl⟩ | ⟨rfl, rfl, h⟩ | ⟨rfl, rfl, h⟩ | ⟨rfl, rfl, h⟩ | ⟨rfl, rfl, h⟩ | ⟨rfl, rfl, h⟩
  · simp [h2]
  · rw [if_neg (by omega), if_pos (by omega), if_neg (by omega), if_pos (by omega)]; exact ⟨rfl, rfl⟩
  · rw [if_neg (by omega), if_neg (by omega), if_pos (by omega), if_neg (by omega), if_neg (by omega), if_pos (by omega)]; exact ⟨rfl, rfl⟩
  · rw [if_neg (by omega), if_neg (by omega), if_neg (by omega), if_pos (by omega), if_neg (by omega), if_neg (by omega), if_neg (by omega), if_pos (by omega)]; exact ⟨rfl, rfl⟩
  · rw [if_neg (by omega), if_neg (by omega), if_neg (by omega), if_neg (by omega), if_pos (by omega), if_neg (by omega), if_neg (by omega), if_neg (by omega), if_neg (by omega), if_pos (by omega)]; exact ⟨rfl, rfl⟩
  · omega
theorem SizeStep.le {n k s : Nat} (h : SizeStep n k s) : k ≤ 5 ∧ s ≤ 64 := by unfold SizeStep at h; omega
theorem SizeStep.done {n k s : Nat} (h : SizeStep n k s) (h1 : ¬ s ≤ 32) : classN n = 5 ∧ sizeN n = 64 * (n / 64 + 1) := by
  have : 32 ≤ n := by unfold SizeStep at h; omega
  unfold classN sizeN
  rw [if_neg (by omega), if_neg (by omega), if_neg (by omega), if_neg (by omega), if_neg (by omega), if_neg (by omega), if_neg (by omega), if_neg (by omega), if_neg (by omega), if_neg (by omega)]
  exact ⟨rfl, rfl⟩
theorem sizes_one (w : World) : Calls Try.prog 46 #[.int .i64 1] w fun e w' => e = .returned (.tuple #[.int .i64 (classN 1 : Nat), .int .i64 (sizeN 1 : Nat)]) ∧ w = w' := by
  obtain ⟨A, hA⟩ : ∃ A, A = classN 1 := ⟨_, rfl⟩
  obtain ⟨B, hB⟩ : ∃ B, B = sizeN 1 := ⟨_, rfl⟩
  have H1 : Hid (∀ k s, SizeStep 1 k s → s ≤ 32 → 1 < s → A = k ∧ B = s) := fun k s x y z => by rw [hA, hB]; exact x.here y z
  have H2 : Hid (∀ k s, SizeStep 1 k s → ¬ s ≤ 32 → A = 5 ∧ B = 64 * (1 / 64 + 1)) := fun k s x y => by rw [hA, hB]; exact x.done y
  rw [← hA, ← hB]
  clear hA hB
  go_enter Try.func46, Try.ntmps46
  go_wp2
  go_loopw [4, 5] (fun a b wr => ∃ k s : Nat, a = .int .i64 k ∧ b = .int .i64 s ∧ SizeStep 1 k s ∧ wr = w) (fun a _ _ => 6 - (intOf a).toNat)
  case atStart => exact ⟨0, 2, rfl, rfl, .inl ⟨rfl, rfl⟩, rfl⟩
  case round =>
    obtain ⟨k, s, rfl, rfl, hs, rfl⟩ := hrel
    have HS := Lib.hid hs
    have hle := hs.le
    clear hs
    by_cases h32 : s ≤ 32
    · have h32' : (s : Int) ≤ 32 := by omega
      by_cases hsn : 1 < s
      · have hsn' : (1 : Int) < (s : Int) := by omega
        go_wp2
        go_ret2
        obtain ⟨e1, e2⟩ := H1.out k s HS.out h32 hsn
        subst e1 e2
        exact ⟨rfl, rfl⟩
      · have hsn' : ¬ (1 : Int) < (s : Int) := by omega
        have hn := HS.out.next h32 (by omega)
        go_wp2
        exact ⟨⟨k + 1, s * 2, by go_num, by go_num, hn, by first | rfl | trivial⟩, by simp [intOf]; omega⟩
    · have h32' : ¬ (s : Int) ≤ 32 := by omega
      go_wp2_with (go_at_call 63; refine (spages_any 1 _ (by omega) (by omega)).mono ?_; rintro e w1 ⟨rfl, rfl⟩)
      go_ret2
      obtain ⟨e1, e2⟩ := H2.out k s HS.out h32
      exact ⟨by rw [e1, e2]; go_num, rfl⟩
theorem sizes_gt (n : Nat) (w : World) (h0 : 1 < n) (h : n < 1099511627776) : Calls Try.prog 46 #[.int .i64 (n : Nat)] w fun e w' => e = .returned (.tuple #[.int .i64 (classN n : Nat), .int .i64 (sizeN n : Nat)]) ∧ w = w' := by
  have h0' : (1 : Int) < (n : Int) := by omega
  obtain ⟨A, hA⟩ : ∃ A, A = classN n := ⟨_, rfl⟩
  obtain ⟨B, hB⟩ : ∃ B, B = sizeN n := ⟨_, rfl⟩
  have H1 : Hid (∀ k s, SizeStep n k s → s ≤ 32 → n < s → A = k ∧ B = s) := fun k s x y z => by rw [hA, hB]; exact x.here y z
  have H2 : Hid (∀ k s, SizeStep n k s → ¬ s ≤ 32 → A = 5 ∧ B = 64 * (n / 64 + 1)) := fun k s x y => by rw [hA, hB]; exact x.done y
  rw [← hA, ← hB]
  clear hA hB
  go_enter Try.func46, Try.ntmps46
  go_wp2
  go_loopw [4, 5] (fun a b wr => ∃ k s : Nat, a = .int .i64 k ∧ b = .int .i64 s ∧ SizeStep n k s ∧ wr = w) (fun a _ _ => 6 - (intOf a).toNat)
  case atStart => exact ⟨0, 2, rfl, rfl, .inl ⟨rfl, rfl⟩, rfl⟩
  case round =>
    obtain ⟨k, s, rfl, rfl, hs, rfl⟩ := hrel
    have HS := Lib.hid hs
    have hle := hs.le
    clear hs
    by_cases h32 : s ≤ 32
    · have h32' : (s : Int) ≤ 32 := by omega
      by_cases hsn : n < s
      · have hsn' : (n : Int) < (s : Int) := by omega
        go_wp2
        go_ret2
        obtain ⟨e1, e2⟩ := H1.out k s HS.out h32 hsn
        subst e1 e2
        exact ⟨rfl, rfl⟩
      · have hsn' : ¬ (n : Int) < (s : Int) := by omega
        have hn := HS.out.next h32 (by omega)
        go_wp2
        exact ⟨⟨k + 1, s * 2, by go_num, by go_num, hn, by first | rfl | trivial⟩, by simp [intOf]; omega⟩
    · have h32' : ¬ (s : Int) ≤ 32 := by omega
      go_wp2_with (go_at_call 63; refine (spages_any _ _ (by omega) (by omega)).mono ?_; rintro e w1 ⟨rfl, rfl⟩)
      go_ret2
      obtain ⟨e1, e2⟩ := H2.out k s HS.out h32
      exact ⟨by rw [e1, e2]; go_num, rfl⟩
theorem sizes_any (n : Nat) (w : World) (h0 : 1 ≤ n) (h : n < 1099511627776) : Calls Try.prog 46 #[.int .i64 (n : Nat)] w fun e w' => e = .returned (.tuple #[.int .i64 (classN n : Nat), .int .i64 (sizeN n : Nat)]) ∧ w = w' := by
  rcases Nat.lt_or_eq_of_le h0 with h1 | rfl
  · exact sizes_gt n w h1 h
  · exact sizes_one w
end Go.Proofs.Ytlpklloagaccoaa
