/- Which headers may be (header's within, Right). No condition. -/
import Derived.Test.YtlpklloagaccoaaField
import Derived.StillTailTactics
namespace Go.Proofs.Ytlpklloagaccoaa
open Go.RowKit
set_option linter.unusedVariables false

def inB (n lo hi : Int) : Bool := decide (lo ≤ n) && decide (n ≤ hi)
theorem within_any (n lo hi : Int) (w : World) : Calls Try.prog 45 #[.int .i64 n, .int .i64 lo, .int .i64 hi] w fun e w' => e = .returned (.bool (inB n lo hi)) ∧ w = w' := by
  by_cases h : lo ≤ n
  · by_cases h2 : n ≤ hi
    · have e : inB n lo hi = true := by simp [inB, h, h2]
      rw [e]
      clear e
      go_enter Try.func45, Try.ntmps45
      go_wp2
      go_ret
      exact ⟨ret_bool (by first | rfl | (simp; done) | (simp; omega)), rfl⟩
    · have e : inB n lo hi = false := by simp [inB, h]; omega
      rw [e]
      clear e
      go_enter Try.func45, Try.ntmps45
      go_wp2
      go_ret
      exact ⟨ret_bool (by first | rfl | (simp; done) | (simp; omega)), rfl⟩
  · have e : inB n lo hi = false := by simp [inB]; omega
    rw [e]
    clear e
    have h' : decide (lo ≤ n) = false := by simpa using h
    go_enter Try.func45, Try.ntmps45
    go_wp2
    go_ret
    exact ⟨rfl, rfl⟩

/-- A header as a value. -/
abbrev hdV (k c r n col : Int) (z d : Bool) : Value := .agg #[.int .i64 k, .int .i64 c, .int .i64 r, .int .i64 n, .int .i64 col, .bool z, .bool d]
def rightB (k c r n col : Int) : Bool := inB c 0 4000 && inB r 0 4000 && inB k 1 8 && inB n 0 255 && inB col 0 3
set_option maxHeartbeats 1000000 in
theorem right_any (k c r n col : Int) (z d : Bool) (w : World) : Calls Try.prog 22 #[hdV k c r n col z d] w fun e w' => e = .returned (.bool (rightB k c r n col)) ∧ ∃ o, w.alloc o = w' := by
  unfold rightB
  cases h1 : inB c 0 4000 <;> cases h2 : inB r 0 4000 <;> cases h3 : inB k 1 8 <;> cases h4 : inB n 0 255 <;> cases h5 : inB col 0 3
  all_goals
    go_enter Try.func22, Try.ntmps22
    go_wp2_with (go_at_call 45; refine (within_any _ _ _ _).mono ?_; rintro e w1 ⟨rfl, rfl⟩; (try rw [h1]); (try rw [h2]); (try rw [h3]); (try rw [h4]); (try rw [h5]))
    go_ret
    exact ⟨rfl, _, rfl⟩

end Go.Proofs.Ytlpklloagaccoaa
