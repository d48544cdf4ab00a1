/- Bit fields of words: Get and Put, in plain arithmetic. Conditions: places and lengths within a word. -/
import Derived.Test.YtlpklloagaccoaaBase
namespace Go.Proofs.Ytlpklloagaccoaa
open Go.RowKit
set_option linter.unusedVariables false

/-! ### plain arithmetic -/
def getv (w at_ n : Nat) : Nat := w / 2 ^ at_ % 2 ^ n
def putv (w at_ n v : Nat) : Nat := 2 ^ at_ * (2 ^ n * (w / 2 ^ (at_ + n)) + v % 2 ^ n) + w % 2 ^ at_
theorem nat_put (w at_ n v : Nat) (hw : w < 2 ^ 64) (h : at_ + n ≤ 64) (hv : v < 2 ^ 64) :
    (w &&& (2 ^ 64 - 1 - (2 ^ n - 1) * 2 ^ at_)) ||| ((v * 2 ^ at_ % 2 ^ 64) &&& ((2 ^ n - 1) * 2 ^ at_)) = putv w at_ n v := by
  have hm : ∀ i, Nat.testBit ((2 ^ n - 1) * 2 ^ at_) i = (decide (at_ ≤ i) && decide (i - at_ < n)) := by
    intro i
    rw [Nat.mul_comm, Nat.testBit_two_pow_mul, Nat.testBit_two_pow_sub_one]
  have hmlt : (2 ^ n - 1) * 2 ^ at_ < 2 ^ 64 := by
    calc (2 ^ n - 1) * 2 ^ at_ < 2 ^ n * 2 ^ at_ := (Nat.mul_lt_mul_right (Nat.two_pow_pos _)).2 (Nat.sub_lt (Nat.two_pow_pos _) (by decide))
      _ = 2 ^ (n + at_) := (Nat.pow_add _ _ _).symm
      _ ≤ 2 ^ 64 := Nat.pow_le_pow_right (by decide) (by omega)
  apply Nat.eq_of_testBit_eq
  intro i
  have e0 : 2 ^ 64 - 1 - (2 ^ n - 1) * 2 ^ at_ = 2 ^ 64 - ((2 ^ n - 1) * 2 ^ at_ + 1) := by omega
  rw [e0, Nat.testBit_or, Nat.testBit_and, Nat.testBit_and, Nat.testBit_two_pow_sub_succ hmlt, hm, Nat.testBit_mod_two_pow, Nat.mul_comm v, Nat.testBit_two_pow_mul]
  unfold putv
  rw [Nat.testBit_two_pow_mul_add _ (Nat.mod_lt _ (Nat.two_pow_pos _)), Nat.testBit_two_pow_mul_add _ (Nat.mod_lt _ (Nat.two_pow_pos _)), Nat.testBit_mod_two_pow, Nat.testBit_mod_two_pow, Nat.testBit_div_two_pow]
  have hwi : 64 ≤ i → w.testBit i = false := fun h => Nat.testBit_lt_two_pow (Nat.lt_of_lt_of_le hw (Nat.pow_le_pow_right (by decide) h))
  by_cases h1 : i < at_
  · have a1 : ¬ at_ ≤ i := by omega
    have a2 : i < 64 := by omega
    simp [h1, a1, a2]
  · have a1 : at_ ≤ i := by omega
    by_cases h2 : i - at_ < n
    · have a2 : i < 64 := by omega
      simp [h1, a1, h2, a2]
    · by_cases h3 : i < 64
      · have a4 : i - at_ - n + (at_ + n) = i := by omega
        simp [h1, a1, h2, h3, a4]
      · have a4 : i - at_ - n + (at_ + n) = i := by omega
        simp [h1, a1, h2, h3, a4, hwi (by omega)]
theorem bits_u64 (a b : Nat) (ha : a < 2 ^ 64) (hb : b < 2 ^ 64) :
    bits .and .u64 (a : Int) (b : Int) = ((a &&& b : Nat) : Int) ∧ bits .or .u64 (a : Int) (b : Int) = ((a ||| b : Nat) : Int) :=
  bits_nat .u64 64 (by decide) (fun n h0 h1 => by rw [IntKind.wrap_u64]; omega) a b ha hb
theorem andNot_u64 (a b : Nat) (ha : a < 2 ^ 64) (hb : b < 2 ^ 64) : bits .andNot .u64 (a : Int) (b : Int) = ((a &&& (2 ^ 64 - 1 - b) : Nat) : Int) := by
  have h1 : (BitVec.ofInt 64 (a : Int)).toNat = a := by
    rw [BitVec.ofInt_natCast, BitVec.toNat_ofNat]; exact Nat.mod_eq_of_lt ha
  have h2 : (BitVec.ofInt 64 (b : Int)).toNat = b := by
    rw [BitVec.ofInt_natCast, BitVec.toNat_ofNat]; exact Nat.mod_eq_of_lt hb
  have hlt : a &&& (2 ^ 64 - 1 - b) < 2 ^ 64 := Nat.and_lt_two_pow _ (by omega)
  show IntKind.u64.wrap ((BitVec.ofInt 64 (a : Int) &&& ~~~ BitVec.ofInt 64 (b : Int)).toNat : Int) = _
  rw [BitVec.toNat_and, BitVec.toNat_not, h1, h2, IntKind.wrap_u64]
  omega

/-! ### the walks -/
theorem ret_kint {k : IntKind} {a b : Int} (h : a = b) : Ending.returned (.int k a) = .returned (.int k b) := by rw [h]
theorem fcut_any (a n : Int) (h0 : 0 ≤ a) (h1 : 0 ≤ n) (h2 : a + n ≤ 64) (w : World) : Calls Try.prog 55 #[.int .i64 a, .int .i64 n] w fun e w' => e = .returned (.tuple #[.int .i64 a, .int .i64 n]) ∧ w = w' := by
  go_enter Try.func55, Try.ntmps55
  go_wp2
  all_goals
    go_ret2
    exact ⟨by first | rfl | (congr 3; simp; omega) | (simp; omega), rfl⟩
theorem pow_le_of (n : Nat) (h : n ≤ 63) : 1 ≤ 2 ^ n ∧ 2 ^ n ≤ 9223372036854775808 :=
  ⟨Nat.one_le_two_pow, Nat.le_trans (Nat.pow_le_pow_right (by decide) h) (by decide)⟩
theorem low_any (n : Nat) (h1 : n ≤ 63) (w : World) : Calls Try.prog 56 #[.int .i64 n] w fun e w' => e = .returned (.int .u64 ((2 ^ n - 1 : Nat) : Int)) ∧ w = w' := by
  have hn : (0 : Int) ≤ (n : Int) := by omega
  have hn2 : (n : Int) ≤ 64 := by omega
  go_enter Try.func56, Try.ntmps56
  go_wp2
  go_ret
  have hp := pow_le_of n h1
  have e1 : ((2 : Int) ^ n) = ((2 ^ n : Nat) : Int) := by simp
  refine ⟨ret_kint ?_, rfl⟩
  rw [IntKind.wrap_u64, IntKind.wrap_u64, e1]
  generalize 2 ^ n = q at *
  omega
theorem get_nat (x a n : Nat) (h0 : x < 2 ^ 64) (h1 : a + n ≤ 64) (h2 : n ≤ 63) (w : World) :
    Calls Try.prog 32 #[.int .u64 x, .int .i64 a, .int .i64 n] w fun e w' => e = .returned (.int .u64 (getv x a n : Nat)) ∧ ∃ m, w' = w.drewN m := by
  have ha : (0 : Int) ≤ (a : Int) := by omega
  have ha2 : (a : Int) ≤ 64 := by omega
  have hn : (0 : Int) ≤ (n : Int) := by omega
  have hn2 : (a : Int) + (n : Int) ≤ 64 := by omega
  go_enter Try.func32, Try.ntmps32
  go_wp2_with (go_at_call 55; refine (fcut_any _ _ ha hn hn2 _).mono ?_; rintro e w1 ⟨rfl, rfl⟩)
  go_quiet ((go_at_call 56; exact Calls.quiet_of_same ((low_any n h2 _).mono fun _ _ h => ⟨h.1, h.2.symm⟩)))
  go_wp2
  go_ret
  refine ⟨ret_kint ?_, nq, rfl⟩
  have hm : 2 ^ n - 1 < 2 ^ 64 := by have := pow_le_of n h2; omega
  have hd : x / 2 ^ a < 2 ^ 64 := Nat.lt_of_le_of_lt (Nat.div_le_self _ _) h0
  have e1 : ((x : Int) / 2 ^ a) = ((x / 2 ^ a : Nat) : Int) := by simp
  rw [e1, (bits_u64 _ _ hd hm).1, Nat.and_two_pow_sub_one_eq_mod]
  rfl
theorem putv_lt {x a n v : Nat} (h0 : x < 2 ^ 64) (h1 : a + n ≤ 64) (hv : v < 2 ^ 64) : putv x a n v < 2 ^ 64 := by
  rw [← nat_put x a n v h0 h1 hv]
  exact Nat.or_lt_two_pow (Nat.and_lt_two_pow _ (by omega)) (Nat.lt_of_le_of_lt Nat.and_le_left (Nat.mod_lt _ (by decide)))
theorem put_nat (x a n v : Nat) (h0 : x < 2 ^ 64) (h1 : a + n ≤ 64) (h2 : n ≤ 63) (hv : v < 2 ^ 64) (w : World) :
    Calls Try.prog 53 #[.int .u64 x, .int .i64 a, .int .i64 n, .int .u64 v] w fun e w' => e = .returned (.int .u64 (putv x a n v : Nat)) ∧ w = w' := by
  have ha : (0 : Int) ≤ (a : Int) := by omega
  have ha2 : (a : Int) ≤ 64 := by omega
  have hn : (0 : Int) ≤ (n : Int) := by omega
  have hn2 : (a : Int) + (n : Int) ≤ 64 := by omega
  go_enter Try.func53, Try.ntmps53
  go_wp2_with (first
    | (go_at_call 55; refine (fcut_any _ _ ha hn hn2 _).mono ?_; rintro e w1 ⟨rfl, rfl⟩)
    | (go_at_call 56; refine (low_any n h2 _).mono ?_; rintro e w2 ⟨rfl, rfl⟩))
  go_ret
  refine ⟨ret_kint ?_, rfl⟩
  have hm : (2 ^ n - 1) * 2 ^ a < 2 ^ 64 := by
    calc (2 ^ n - 1) * 2 ^ a < 2 ^ n * 2 ^ a := (Nat.mul_lt_mul_right (Nat.two_pow_pos _)).2 (Nat.sub_lt (Nat.two_pow_pos _) (by decide))
      _ = 2 ^ (n + a) := (Nat.pow_add _ _ _).symm
      _ ≤ 2 ^ 64 := Nat.pow_le_pow_right (by decide) (by omega)
  have e1 : IntKind.u64.wrap (((2 ^ n - 1 : Nat) : Int) * 2 ^ a) = (((2 ^ n - 1) * 2 ^ a : Nat) : Int) := by
    rw [IntKind.wrap_u64, show (((2 ^ n - 1 : Nat) : Int) * 2 ^ a) = (((2 ^ n - 1) * 2 ^ a : Nat) : Int) by simp]
    omega
  have e2 : IntKind.u64.wrap ((v : Int) * 2 ^ a) = ((v * 2 ^ a % 2 ^ 64 : Nat) : Int) := by
    rw [IntKind.wrap_u64, show ((v : Int) * 2 ^ a) = ((v * 2 ^ a : Nat) : Int) by simp]
    omega
  have hv2 : v * 2 ^ a % 2 ^ 64 < 2 ^ 64 := Nat.mod_lt _ (by decide)
  have hx1 : x &&& (2 ^ 64 - 1 - (2 ^ n - 1) * 2 ^ a) < 2 ^ 64 := Nat.and_lt_two_pow _ (by omega)
  have hx2 : (v * 2 ^ a % 2 ^ 64) &&& ((2 ^ n - 1) * 2 ^ a) < 2 ^ 64 := Nat.and_lt_two_pow _ hm
  rw [← nat_put x a n v h0 h1 hv]
  rw [e1, e2, andNot_u64 _ _ h0 hm, (bits_u64 _ _ hv2 hm).1, (bits_u64 _ _ hx1 hx2).2]
end Go.Proofs.Ytlpklloagaccoaa
