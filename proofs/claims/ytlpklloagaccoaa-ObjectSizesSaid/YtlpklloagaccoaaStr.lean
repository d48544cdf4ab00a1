/- Bytes as strings; values that are compared; what may be given out while there is room. No condition. -/
import Derived.Test.YtlpklloagaccoaaObBytes
import Derived.Laws.BytesArg
namespace Go.Proofs.Ytlpklloagaccoaa
open Go.RowKit
set_option linter.unusedVariables false

def bytesL (n : Nat) (f : Nat → Nat) : List Int := (List.range n).map fun i => (f i : Int)
theorem bytesL_length (n : Nat) (f : Nat → Nat) : (bytesL n f).length = n := by simp [bytesL]
theorem bytesL_getD (n : Nat) (f : Nat → Nat) {i : Nat} (h : i < n) : (bytesL n f).getD i 0 = (f i : Int) := by simp [bytesL, List.getD, h]
/-- A string of bytes. -/
def strB (n : Nat) (f : Nat → Nat) : ByteArray := strOfNums (bytesL n f)
theorem strB_congr {n : Nat} {f f' : Nat → Nat} (h : ∀ i, i < n → f' i = f i) : strB n f' = strB n f := by
  unfold strB bytesL
  congr 1
  apply List.map_congr_left
  intro i hi
  rw [h i (by simpa using hi)]
theorem BytesB.conv {w : World} {g n : Nat} {f : Nat → Nat} (B : BytesB w g n f) (cap : Nat) : (convert 36 9 (.slice (some ⟨g, 0, none⟩) n cap)).run Try.prog w = .ok (.string (strB n f)) w :=
  run_convert_bytes_arg w 36 5 Try.underlying36 Try.underlying5 g 0 n cap (bytesL n f) (bytesL_length n f) (fun i hi => by rw [Nat.zero_add, B.cell hi, bytesL_getD n f hi]) 9 Try.underlying9
theorem eqlV (ak an bk bn : Int) (w : World) : (binOp .eql 33 (.agg #[.int .i64 ak, .int .i64 an]) (.agg #[.int .i64 bk, .int .i64 bn])).run Try.prog w = .ok (.bool (ak == bk && an == bn)) w := by
  have hp : Try.prog.stoodInHeld 33 = false := by kernel_rfl
  by_cases h1 : ak = bk <;> by_cases h2 : an = bn <;> simp [go_sem, part, h1, h2, hp]
theorem tookL_room (L : Al) (n : Nat) (h : L.t + (n / 64 + 1) ≤ L.n) : ∃ L' a, tookL L n = some (L', a) ∧ L'.t ≤ L.t + (n / 64 + 1) ∧ L.t ≤ L'.t := by
  unfold tookL
  by_cases h5 : classN n = 5
  · rw [if_pos h5, if_pos h]; exact ⟨_, _, rfl, Nat.le_refl _, Nat.le_add_right _ _⟩
  · rw [if_neg h5]
    by_cases hj : (L.cur (classN n)).2 < perN (classN n)
    · rw [if_pos hj]; exact ⟨_, _, rfl, Nat.le_add_right _ _, Nat.le_refl _⟩
    · rw [if_neg hj, if_pos (by omega)]; exact ⟨_, _, rfl, by show L.t + 1 ≤ _; omega, by show L.t ≤ L.t + 1; omega⟩
end Go.Proofs.Ytlpklloagaccoaa
