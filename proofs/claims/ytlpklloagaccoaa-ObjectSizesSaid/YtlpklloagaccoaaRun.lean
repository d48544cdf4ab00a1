/- The first run of free numbers behind a prefix (bitset.Run). Conditions: what is taken is a prefix. -/
import Derived.Test.YtlpklloagaccoaaBits
namespace Go.Proofs.Ytlpklloagaccoaa
open Go.RowKit
set_option linter.unusedVariables false

def runN (n t k : Nat) : Int := if t + k ≤ n then (t : Int) else -1
theorem run_prefix {o : Own} {r p n t : Nat} (k : Nat) (w : World) (B : BsetRep o w r p n (fun i => decide (i < t))) (h1 : 1 ≤ k) (h2 : k < 1099511627776) :
    Calls Try.prog 83 #[.pointer (some ⟨p, 0, none⟩), .int .i64 (k : Nat)] w fun e w' => e = .returned (.int .i64 (runN n t k)) ∧ w = w' := by
  have HB := Lib.hid B
  have c0 : w.cell? ⟨p, 0, none⟩ = some (.int .i64 (n : Nat)) := by
    obtain ⟨g, m, B⟩ := B
    have c0 := B.blk.cell 0
    simpa using c0
  have hn : n ≤ 4096 := by obtain ⟨g, m, B⟩ := B; exact B.le
  clear B
  obtain ⟨R, hR⟩ : ∃ R, R = runN n t k := ⟨_, rfl⟩
  have HR := Lib.hid hR
  rw [← hR]
  clear hR
  have k1 : (1 : Int) ≤ (k : Int) := by omega
  go_enter Try.func83, Try.ntmps83
  go_wp2
  all_goals
    first
    | (exfalso; omega)
    | skip
  all_goals
    go_loopw [5, 13] (fun rv iv wr => ∃ i : Nat, rv = .int .i64 (i - t : Nat) ∧ iv = .int .i64 i ∧ i ≤ n ∧ i - t < k ∧ wr = w) (fun _ iv _ => n - (intOf iv).toNat)
    case atStart => exact ⟨0, by simp, rfl, by omega, by omega, rfl⟩
    case round =>
      obtain ⟨i, rfl, rfl, hi, hk, rfl⟩ := hrel
      by_cases hin : i < n
      · have hin' : (i : Int) < (n : Int) := by omega
        by_cases hit : i < t
        · have hd := Lib.hid (show decide (i < t) = true by simp [hit])
          have hz : ((0 : Int) == (k : Int)) = false := by first | (simp; done) | (simp; omega)
          go_wp2_with (go_at_call 82; refine (bhas_any i _ HB.out hin).mono ?_; rintro e w1 ⟨rfl, rfl⟩; rw [hd.out])
          exact ⟨⟨i + 1, by rw [show i + 1 - t = 0 by omega]; rfl, by go_num, by omega, by omega, by first | rfl | trivial⟩, by simp [intOf]; omega⟩
        · have hd := Lib.hid (show decide (i < t) = false by simp [hit])
          by_cases hr : i + 1 - t = k
          · have hz : (((i - t : Nat) : Int) + 1 == (k : Int)) = true := by first | (simp; done) | (simp; omega)
            go_wp2_with (go_at_call 82; refine (bhas_any i _ HB.out hin).mono ?_; rintro e w1 ⟨rfl, rfl⟩; rw [hd.out])
            go_ret
            exact ⟨ret_int (by rw [HR.out]; unfold runN; rw [if_pos (by omega)]; omega), rfl⟩
          · have hz : (((i - t : Nat) : Int) + 1 == (k : Int)) = false := by first | (simp; done) | (simp; omega)
            first
            | (exfalso; omega)
            | (go_wp2_with (go_at_call 82; refine (bhas_any i _ HB.out hin).mono ?_; rintro e w1 ⟨rfl, rfl⟩; rw [hd.out])
               exact ⟨⟨i + 1, by rw [show i + 1 - t = i - t + 1 by omega]; go_num, by go_num, by omega, by omega, by first | rfl | trivial⟩, by simp [intOf]; omega⟩)
      · have hin' : ¬ (i : Int) < (n : Int) := by omega
        go_wp2
        go_ret
        obtain rfl : i = n := by omega
        exact ⟨by rw [HR.out]; exact ret_int (by unfold runN; rw [if_neg (by omega)]), rfl⟩
end Go.Proofs.Ytlpklloagaccoaa
