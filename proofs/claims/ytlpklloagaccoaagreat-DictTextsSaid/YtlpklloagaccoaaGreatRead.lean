/- Bit fields of words: Get and Put, in plain arithmetic. Conditions: places and lengths within a word. Which headers may be (header's within, Right). No condition. Headers of objects as words: Word, Read, in plain arithmetic. Conditions: none on the header; a word of 64 bits. Words read as headers. Condition: a word of 64 bits. -/
import Derived.Test.YtlpklloagaccoaaGreatMaps
import Derived.StillTailTactics
import Derived.Deep.RegionHeld3
namespace Go.Proofs.YtlpklloagaccoaaGreat
open Go.RowKit
set_option linter.unusedVariables false

/-! ### plain arithmetic -/
def getv (w at_ n : Nat) : Nat := w / 2 ^ at_ % 2 ^ n
def putv (w at_ n v : Nat) : Nat := 2 ^ at_ * (2 ^ n * (w / 2 ^ (at_ + n)) + v % 2 ^ n) + w % 2 ^ at_
theorem nat_put (w at_ n v : Nat) (hw : w < 2 ^ 64) (h : at_ + n ≤ 64) (hv : v < 2 ^ 64) :
    (w &&& (2 ^ 64 - 1 - (2 ^ n - 1) * 2 ^ at_)) ||| ((v * 2 ^ at_ % 2 ^ 64) &&& ((2 ^ n - 1) * 2 ^ at_)) = putv w at_ n v := by
  have hm : ∀ i, Nat.testBit ((2 ^ n - 1) * 2 ^ at_) i = (decide (at_ ≤ i) && decide (i - at_ < n)) := by
    intro i
    rw [Nat.mul_comm, Nat.testBit_two_pow_mul, Nat.testBit_two_pow_sub_one]
  have hmlt : (2 ^ n - 1) * 2 ^ at_ < 2 ^ 64 := by
    calc (2 ^ n - 1) * 2 ^ at_ < 2 ^ n * 2 ^ at_ := (Nat.mul_lt_mul_right (Nat.two_pow_pos _)).2 (Nat.sub_lt (Nat.two_pow_pos _) (by decide))
      _ = 2 ^ (n + at_) := (Nat.pow_add _ _ _).symm
      _ ≤ 2 ^ 64 := Nat.pow_le_pow_right (by decide) (by omega)
  apply Nat.eq_of_testBit_eq
  intro i
  have e0 : 2 ^ 64 - 1 - (2 ^ n - 1) * 2 ^ at_ = 2 ^ 64 - ((2 ^ n - 1) * 2 ^ at_ + 1) := by omega
  rw [e0, Nat.testBit_or, Nat.testBit_and, Nat.testBit_and, Nat.testBit_two_pow_sub_succ hmlt, hm, Nat.testBit_mod_two_pow, Nat.mul_comm v, Nat.testBit_two_pow_mul]
  unfold putv
  rw [Nat.testBit_two_pow_mul_add _ (Nat.mod_lt _ (Nat.two_pow_pos _)), Nat.testBit_two_pow_mul_add _ (Nat.mod_lt _ (Nat.two_pow_pos _)), Nat.testBit_mod_two_pow, Nat.testBit_mod_two_pow, Nat.testBit_div_two_pow]
  have hwi : 64 ≤ i → w.testBit i = false := fun h => Nat.testBit_lt_two_pow (Nat.lt_of_lt_of_le hw (Nat.pow_le_pow_right (by decide) h))
  by_cases h1 : i < at_
  · have a1 : ¬ at_ ≤ i := by omega
    have a2 : i < 64 := by omega
    simp [h1, a1, a2]
  · have a1 : at_ ≤ i := by omega
    by_cases h2 : i - at_ < n
    · have a2 : i < 64 := by omega
      simp [h1, a1, h2, a2]
    · by_cases h3 : i < 64
      · have a4 : i - at_ - n + (at_ + n) = i := by omega
        simp [h1, a1, h2, h3, a4]
      · have a4 : i - at_ - n + (at_ + n) = i := by omega
        simp [h1, a1, h2, h3, a4, hwi (by omega)]
theorem bits_u64 (a b : Nat) (ha : a < 2 ^ 64) (hb : b < 2 ^ 64) :
    bits .and .u64 (a : Int) (b : Int) = ((a &&& b : Nat) : Int) ∧ bits .or .u64 (a : Int) (b : Int) = ((a ||| b : Nat) : Int) :=
  bits_nat .u64 64 (by decide) (fun n h0 h1 => by rw [IntKind.wrap_u64]; omega) a b ha hb
theorem andNot_u64 (a b : Nat) (ha : a < 2 ^ 64) (hb : b < 2 ^ 64) : bits .andNot .u64 (a : Int) (b : Int) = ((a &&& (2 ^ 64 - 1 - b) : Nat) : Int) := by
  have h1 : (BitVec.ofInt 64 (a : Int)).toNat = a := by
    rw [BitVec.ofInt_natCast, BitVec.toNat_ofNat]; exact Nat.mod_eq_of_lt ha
  have h2 : (BitVec.ofInt 64 (b : Int)).toNat = b := by
    rw [BitVec.ofInt_natCast, BitVec.toNat_ofNat]; exact Nat.mod_eq_of_lt hb
  have hlt : a &&& (2 ^ 64 - 1 - b) < 2 ^ 64 := Nat.and_lt_two_pow _ (by omega)
  show IntKind.u64.wrap ((BitVec.ofInt 64 (a : Int) &&& ~~~ BitVec.ofInt 64 (b : Int)).toNat : Int) = _
  rw [BitVec.toNat_and, BitVec.toNat_not, h1, h2, IntKind.wrap_u64]
  omega

/-! ### the walks -/
theorem ret_kint {k : IntKind} {a b : Int} (h : a = b) : Ending.returned (.int k a) = .returned (.int k b) := by rw [h]
theorem fcut_any (a n : Int) (h0 : 0 ≤ a) (h1 : 0 ≤ n) (h2 : a + n ≤ 64) (w : World) : Calls Tryz.prog 168 #[.int .i64 a, .int .i64 n] w fun e w' => e = .returned (.tuple #[.int .i64 a, .int .i64 n]) ∧ w = w' := by
  go_enter Tryz.func168, Tryz.ntmps168
  go_wp2
  all_goals
    go_ret2
    exact ⟨by first | rfl | (congr 3; simp; omega) | (simp; omega), rfl⟩
theorem pow_le_of (n : Nat) (h : n ≤ 63) : 1 ≤ 2 ^ n ∧ 2 ^ n ≤ 9223372036854775808 :=
  ⟨Nat.one_le_two_pow, Nat.le_trans (Nat.pow_le_pow_right (by decide) h) (by decide)⟩
theorem low_any (n : Nat) (h1 : n ≤ 63) (w : World) : Calls Tryz.prog 169 #[.int .i64 n] w fun e w' => e = .returned (.int .u64 ((2 ^ n - 1 : Nat) : Int)) ∧ w = w' := by
  have hn : (0 : Int) ≤ (n : Int) := by omega
  have hn2 : (n : Int) ≤ 64 := by omega
  go_enter Tryz.func169, Tryz.ntmps169
  go_wp2
  go_ret
  have hp := pow_le_of n h1
  have e1 : ((2 : Int) ^ n) = ((2 ^ n : Nat) : Int) := by simp
  refine ⟨ret_kint ?_, rfl⟩
  rw [IntKind.wrap_u64, IntKind.wrap_u64, e1]
  generalize 2 ^ n = q at *
  omega
theorem get_nat (x a n : Nat) (h0 : x < 2 ^ 64) (h1 : a + n ≤ 64) (h2 : n ≤ 63) (w : World) :
    Calls Tryz.prog 112 #[.int .u64 x, .int .i64 a, .int .i64 n] w fun e w' => e = .returned (.int .u64 (getv x a n : Nat)) ∧ ∃ m, w' = w.drewN m := by
  have ha : (0 : Int) ≤ (a : Int) := by omega
  have ha2 : (a : Int) ≤ 64 := by omega
  have hn : (0 : Int) ≤ (n : Int) := by omega
  have hn2 : (a : Int) + (n : Int) ≤ 64 := by omega
  go_enter Tryz.func112, Tryz.ntmps112
  go_wp2_with (go_at_call 168; refine (fcut_any _ _ ha hn hn2 _).mono ?_; rintro e w1 ⟨rfl, rfl⟩)
  go_quiet ((go_at_call 169; exact Calls.quiet_of_same ((low_any n h2 _).mono fun _ _ h => ⟨h.1, h.2.symm⟩)))
  go_wp2
  go_ret
  refine ⟨ret_kint ?_, nq, rfl⟩
  have hm : 2 ^ n - 1 < 2 ^ 64 := by have := pow_le_of n h2; omega
  have hd : x / 2 ^ a < 2 ^ 64 := Nat.lt_of_le_of_lt (Nat.div_le_self _ _) h0
  have e1 : ((x : Int) / 2 ^ a) = ((x / 2 ^ a : Nat) : Int) := by simp
  rw [e1, (bits_u64 _ _ hd hm).1, Nat.and_two_pow_sub_one_eq_mod]
  rfl
theorem putv_lt {x a n v : Nat} (h0 : x < 2 ^ 64) (h1 : a + n ≤ 64) (hv : v < 2 ^ 64) : putv x a n v < 2 ^ 64 := by
  rw [← nat_put x a n v h0 h1 hv]
  exact Nat.or_lt_two_pow (Nat.and_lt_two_pow _ (by omega)) (Nat.lt_of_le_of_lt Nat.and_le_left (Nat.mod_lt _ (by decide)))
theorem put_nat (x a n v : Nat) (h0 : x < 2 ^ 64) (h1 : a + n ≤ 64) (h2 : n ≤ 63) (hv : v < 2 ^ 64) (w : World) :
    Calls Tryz.prog 114 #[.int .u64 x, .int .i64 a, .int .i64 n, .int .u64 v] w fun e w' => e = .returned (.int .u64 (putv x a n v : Nat)) ∧ w = w' := by
  have ha : (0 : Int) ≤ (a : Int) := by omega
  have ha2 : (a : Int) ≤ 64 := by omega
  have hn : (0 : Int) ≤ (n : Int) := by omega
  have hn2 : (a : Int) + (n : Int) ≤ 64 := by omega
  go_enter Tryz.func114, Tryz.ntmps114
  go_wp2_with (first
    | (go_at_call 168; refine (fcut_any _ _ ha hn hn2 _).mono ?_; rintro e w1 ⟨rfl, rfl⟩)
    | (go_at_call 169; refine (low_any n h2 _).mono ?_; rintro e w2 ⟨rfl, rfl⟩))
  go_ret
  refine ⟨ret_kint ?_, rfl⟩
  have hm : (2 ^ n - 1) * 2 ^ a < 2 ^ 64 := by
    calc (2 ^ n - 1) * 2 ^ a < 2 ^ n * 2 ^ a := (Nat.mul_lt_mul_right (Nat.two_pow_pos _)).2 (Nat.sub_lt (Nat.two_pow_pos _) (by decide))
      _ = 2 ^ (n + a) := (Nat.pow_add _ _ _).symm
      _ ≤ 2 ^ 64 := Nat.pow_le_pow_right (by decide) (by omega)
  have e1 : IntKind.u64.wrap (((2 ^ n - 1 : Nat) : Int) * 2 ^ a) = (((2 ^ n - 1) * 2 ^ a : Nat) : Int) := by
    rw [IntKind.wrap_u64, show (((2 ^ n - 1 : Nat) : Int) * 2 ^ a) = (((2 ^ n - 1) * 2 ^ a : Nat) : Int) by simp]
    omega
  have e2 : IntKind.u64.wrap ((v : Int) * 2 ^ a) = ((v * 2 ^ a % 2 ^ 64 : Nat) : Int) := by
    rw [IntKind.wrap_u64, show ((v : Int) * 2 ^ a) = ((v * 2 ^ a : Nat) : Int) by simp]
    omega
  have hv2 : v * 2 ^ a % 2 ^ 64 < 2 ^ 64 := Nat.mod_lt _ (by decide)
  have hx1 : x &&& (2 ^ 64 - 1 - (2 ^ n - 1) * 2 ^ a) < 2 ^ 64 := Nat.and_lt_two_pow _ (by omega)
  have hx2 : (v * 2 ^ a % 2 ^ 64) &&& ((2 ^ n - 1) * 2 ^ a) < 2 ^ 64 := Nat.and_lt_two_pow _ hm
  rw [← nat_put x a n v h0 h1 hv]
  rw [e1, e2, andNot_u64 _ _ h0 hm, (bits_u64 _ _ hv2 hm).1, (bits_u64 _ _ hx1 hx2).2]
end Go.Proofs.YtlpklloagaccoaaGreat
namespace Go.Proofs.YtlpklloagaccoaaGreat
open Go.RowKit
set_option linter.unusedVariables false

def inB (n lo hi : Int) : Bool := decide (lo ≤ n) && decide (n ≤ hi)
theorem within_any (n lo hi : Int) (w : World) : Calls Tryz.prog 157 #[.int .i64 n, .int .i64 lo, .int .i64 hi] w fun e w' => e = .returned (.bool (inB n lo hi)) ∧ w = w' := by
  by_cases h : lo ≤ n
  · by_cases h2 : n ≤ hi
    · have e : inB n lo hi = true := by simp [inB, h, h2]
      rw [e]
      clear e
      go_enter Tryz.func157, Tryz.ntmps157
      go_wp2
      go_ret
      exact ⟨ret_bool (by first | rfl | (simp; done) | (simp; omega)), rfl⟩
    · have e : inB n lo hi = false := by simp [inB, h]; omega
      rw [e]
      clear e
      go_enter Tryz.func157, Tryz.ntmps157
      go_wp2
      go_ret
      exact ⟨ret_bool (by first | rfl | (simp; done) | (simp; omega)), rfl⟩
  · have e : inB n lo hi = false := by simp [inB]; omega
    rw [e]
    clear e
    have h' : decide (lo ≤ n) = false := by simpa using h
    go_enter Tryz.func157, Tryz.ntmps157
    go_wp2
    go_ret
    exact ⟨rfl, rfl⟩

/-- A header as a value. -/
abbrev hdV (k c r n col : Int) (z d : Bool) : Value := .agg #[.int .i64 k, .int .i64 c, .int .i64 r, .int .i64 n, .int .i64 col, .bool z, .bool d]
def rightB (k c r n col : Int) : Bool := inB c 0 4000 && inB r 0 4000 && inB k 1 8 && inB n 0 255 && inB col 0 3
set_option maxHeartbeats 1000000 in
theorem right_any (k c r n col : Int) (z d : Bool) (w : World) : Calls Tryz.prog 101 #[hdV k c r n col z d] w fun e w' => e = .returned (.bool (rightB k c r n col)) ∧ ∃ o, w.alloc o = w' := by
  unfold rightB
  cases h1 : inB c 0 4000 <;> cases h2 : inB r 0 4000 <;> cases h3 : inB k 1 8 <;> cases h4 : inB n 0 255 <;> cases h5 : inB col 0 3
  all_goals
    go_enter Tryz.func101, Tryz.ntmps101
    go_wp2_with (go_at_call 157; refine (within_any _ _ _ _).mono ?_; rintro e w1 ⟨rfl, rfl⟩; (try rw [h1]); (try rw [h2]); (try rw [h3]); (try rw [h4]); (try rw [h5]))
    go_ret
    exact ⟨rfl, _, rfl⟩

end Go.Proofs.YtlpklloagaccoaaGreat
namespace Go.Proofs.YtlpklloagaccoaaGreat
open Go.RowKit
set_option linter.unusedVariables false

theorem hflag_any (z : Bool) (w : World) : Calls Tryz.prog 163 #[.bool z] w fun e w' => e = .returned (.int .i64 (z.toNat : Nat)) ∧ w' = w := by
  cases z
  all_goals
    go_enter Tryz.func163, Tryz.ntmps163
    go_wp2
    go_ret
    exact ⟨rfl, rfl⟩

def bitsL : List Nat := [4, 16, 16, 8, 2, 1, 1]
def atL (i : Nat) : Nat := (bitsL.take i).sum
def accL (vs : List Nat) : Nat → Nat
  | 0 => 0
  | i + 1 => putv (accL vs i) (atL i) (bitsL.getD i 0) (vs.getD i 0)
/-- Seven pairs in a row. -/
def Cells7 (w : World) (g : Nat) (vs : List Nat) : Prop := ∀ i, i < 7 → w.cell? ⟨g, i * 2, none⟩ = some (.int .i64 (vs.getD i 0 : Nat)) ∧ w.cell? ⟨g, i * 2 + 1, none⟩ = some (.int .i64 (bitsL.getD i 0 : Nat))
theorem Cells7.alloc {w : World} {g : Nat} {vs : List Nat} (h : Cells7 w g vs) (o : Obj) : Cells7 (w.alloc o) g vs := fun i hi => by
  obtain ⟨h1, h2⟩ := h i hi
  have hl := World.block_lt_of_cell? _ _ h1
  exact ⟨(World.cell?_alloc_lt w o _ hl).trans h1, (World.cell?_alloc_lt w o ⟨g, i * 2 + 1, none⟩ hl).trans h2⟩
theorem cells7_new {w : World} {g : Nat} {t : TypeId} (a b c d e f h : Nat) (hb : w.heap[g]? = some (.cells #[.int .i64 a, .int .i64 4, .int .i64 b, .int .i64 16, .int .i64 c, .int .i64 16, .int .i64 d, .int .i64 8, .int .i64 e, .int .i64 2, .int .i64 f, .int .i64 1, .int .i64 h, .int .i64 1] t (0, 0))) :
    Cells7 w g [a, b, c, d, e, f, h] := by
  intro i hi
  have hc : i = 0 ∨ i = 1 ∨ i = 2 ∨ i = 3 ∨ i = 4 ∨ i = 5 ∨ i = 6 := by omega
  rcases hc with rfl | rfl | rfl | rfl | rfl | rfl | rfl <;> simp [World.cell?, hb, bitsL]
theorem atL_succ (i : Nat) (h : i < 7) : atL (i + 1) = atL i + bitsL.getD i 0 := by
  have hc : i = 0 ∨ i = 1 ∨ i = 2 ∨ i = 3 ∨ i = 4 ∨ i = 5 ∨ i = 6 := by omega
  rcases hc with rfl | rfl | rfl | rfl | rfl | rfl | rfl <;> decide
theorem atL_le (i : Nat) (h : i < 7) : atL i + bitsL.getD i 0 ≤ 48 ∧ bitsL.getD i 0 ≤ 16 := by
  have hc : i = 0 ∨ i = 1 ∨ i = 2 ∨ i = 3 ∨ i = 4 ∨ i = 5 ∨ i = 6 := by omega
  rcases hc with rfl | rfl | rfl | rfl | rfl | rfl | rfl <;> decide
theorem accL_lt (vs : List Nat) (hv : ∀ v ∈ vs, v < 65536) : ∀ i, i ≤ 7 → accL vs i < 2 ^ 64
  | 0, _ => by show 0 < 2 ^ 64; decide
  | i + 1, h => putv_lt (accL_lt vs hv i (by omega)) (by have := (atL_le i (by omega)).1; omega) (by
    have : vs.getD i 0 < 65536 := by
      rcases Nat.lt_or_ge i vs.length with hl | hl
      · simpa [List.getD, hl] using hv _ (List.getElem_mem hl)
      · simp [List.getD, List.getElem?_eq_none hl]
    omega)
theorem putv_low {x a n v : Nat} (hx : x < 2 ^ a) (hv : v < 2 ^ n) : putv x a n v = 2 ^ a * v + x := by
  unfold putv
  rw [Nat.mod_eq_of_lt hv, Nat.mod_eq_of_lt hx, Nat.div_eq_of_lt (Nat.lt_of_lt_of_le hx (Nat.pow_le_pow_right (by decide) (Nat.le_add_right _ _)))]
  simp
/-- The word of a header. -/
def hdW (k c r n col : Nat) (z d : Bool) : Nat := k + 16 * c + 1048576 * r + 68719476736 * n + 17592186044416 * col + 70368744177664 * z.toNat + 140737488355328 * d.toNat
theorem accL_seven (k c r n col z d : Nat) (hk : k < 16) (hc : c < 65536) (hr : r < 65536) (hn : n < 256) (hcol : col < 4) (hz : z < 2) (hd : d < 2) :
    accL [k, c, r, n, col, z, d] 7 = k + 16 * c + 1048576 * r + 68719476736 * n + 17592186044416 * col + 70368744177664 * z + 140737488355328 * d := by
  have s1 : accL [k, c, r, n, col, z, d] 1 = k := by
    show putv 0 0 4 k = _
    rw [putv_low (by decide) (by omega)]; omega
  have s2 : accL [k, c, r, n, col, z, d] 2 = k + 16 * c := by
    show putv (accL [k, c, r, n, col, z, d] 1) 4 16 c = _
    rw [s1, putv_low (by omega) (by omega)]; omega
  have s3 : accL [k, c, r, n, col, z, d] 3 = k + 16 * c + 1048576 * r := by
    show putv (accL [k, c, r, n, col, z, d] 2) 20 16 r = _
    rw [s2, putv_low (by omega) (by omega)]; omega
  have s4 : accL [k, c, r, n, col, z, d] 4 = k + 16 * c + 1048576 * r + 68719476736 * n := by
    show putv (accL [k, c, r, n, col, z, d] 3) 36 8 n = _
    rw [s3, putv_low (by omega) (by omega)]; omega
  have s5 : accL [k, c, r, n, col, z, d] 5 = k + 16 * c + 1048576 * r + 68719476736 * n + 17592186044416 * col := by
    show putv (accL [k, c, r, n, col, z, d] 4) 44 2 col = _
    rw [s4, putv_low (by omega) (by omega)]; omega
  have s6 : accL [k, c, r, n, col, z, d] 6 = k + 16 * c + 1048576 * r + 68719476736 * n + 17592186044416 * col + 70368744177664 * z := by
    show putv (accL [k, c, r, n, col, z, d] 5) 46 1 z = _
    rw [s5, putv_low (by omega) (by omega)]; omega
  show putv (accL [k, c, r, n, col, z, d] 6) 47 1 d = _
  rw [s6, putv_low (by omega) (by omega)]; omega
theorem word_wrong (k c r n col : Int) (z d : Bool) (h : rightB k c r n col = false) (w : World) : Calls Tryz.prog 104 #[hdV k c r n col z d] w fun e w' => e = .returned (.int .u64 0) ∧ ∃ o1 o2, (w.alloc o1).alloc o2 = w' := by
  go_enter Tryz.func104, Tryz.ntmps104
  go_wp2_with (go_at_call 101; refine (right_any _ _ _ _ _ _ _ _).mono ?_; rintro e w1 ⟨rfl, o2, rfl⟩; rw [h])
  go_ret
  exact ⟨rfl, _, _, rfl⟩
set_option maxRecDepth 100000 in
set_option maxHeartbeats 1000000 in
theorem word_right (k c r n col : Nat) (z d : Bool) (h : rightB k c r n col = true) (w : World) : Calls Tryz.prog 104 #[hdV k c r n col z d] w fun e w' => e = .returned (.int .u64 (hdW k c r n col z d : Nat)) ∧ Below w.heap.size w w' := by
  obtain ⟨h1, h2, h3, h4, h5⟩ : (c ≤ 4000 ∧ r ≤ 4000 ∧ k ≤ 8 ∧ n ≤ 255 ∧ col ≤ 3) := by
    simp [rightB, inB] at h; omega
  obtain ⟨vs, hvs⟩ : ∃ vs, vs = [k, c, r, n, col, z.toNat, d.toNat] := ⟨_, rfl⟩
  have hz : z.toNat < 2 := by cases z <;> decide
  have hd : d.toNat < 2 := by cases d <;> decide
  have HV := Lib.hid hvs
  have HVB : Hid (∀ v ∈ vs, v < 65536) := by
    rw [hvs]; intro v hv
    simp at hv; omega
  have HVG : Hid (∀ i, i < 7 → vs.getD i 0 < 65536) := fun i _ => by
    rcases Nat.lt_or_ge i vs.length with hl | hl
    · simpa [List.getD, hl] using HVB.out _ (List.getElem_mem hl)
    · simp [List.getD, List.getElem?_eq_none hl]
  have HF : Hid (accL vs 7 = hdW k c r n col z d) := by
    rw [hvs]; exact accL_seven k c r n col z.toNat d.toNat (by omega) (by omega) (by omega) (by omega) (by omega) hz hd
  clear hvs h1 h2 h3 h4 h5 hz hd
  go_enter Tryz.func104, Tryz.ntmps104
  go_wp2_with (go_at_call 101; refine (right_any _ _ _ _ _ _ _ _).mono ?_; rintro e w1 ⟨rfl, o2, rfl⟩; rw [h])
  go_region_held3 (fun w' => w'.cell? ⟨w.heap.size, 0, none⟩ = some (.int .i64 (k : Int)) ∧ w'.cell? ⟨w.heap.size, 1, none⟩ = some (.int .i64 (c : Int)) ∧ w'.cell? ⟨w.heap.size, 2, none⟩ = some (.int .i64 (r : Int)) ∧ w'.cell? ⟨w.heap.size, 3, none⟩ = some (.int .i64 (n : Int)) ∧ w'.cell? ⟨w.heap.size, 4, none⟩ = some (.int .i64 (col : Int)) ∧ w'.cell? ⟨w.heap.size, 5, none⟩ = some (.bool z) ∧ w'.cell? ⟨w.heap.size, 6, none⟩ = some (.bool d)) (go_keep)
    (first | (go_at_call 163; refine (hflag_any _ _).mono ?_; rintro e w' ⟨rfl, rfl⟩))
  go_wp2
  go_loopw [3, 4, 35] (fun a b e wr => ∃ i : Nat, i ≤ 7 ∧ e = .int .i64 i ∧ a = .int .u64 (accL vs i : Nat) ∧ b = .int .i64 (atL i : Nat) ∧ Below w.heap.size w wr ∧ Cells7 wr (w.heap.size + 1 + 1) vs) (fun _ _ e _ => 7 - (intOf e).toNat)
  case atStart => exact ⟨0, by omega, rfl, rfl, rfl, (by repeat (first | exact Below.refl _ _ | refine Below.alloc ?_ (by first | omega | (simp; done) | (simp; omega)) _ | refine Below.drew ?_)), by
    rw [HV.out]
    refine cells7_new (t := 171) _ _ _ _ _ _ _ ?_
    have := heap_alloc_new ((w.alloc (.cells #[.int .i64 k, .int .i64 c, .int .i64 r, .int .i64 n, .int .i64 col, .bool z, .bool d] 65)).alloc o2) (.cells #[.int .i64 k, .int .i64 4, .int .i64 c, .int .i64 16, .int .i64 r, .int .i64 16, .int .i64 n, .int .i64 8, .int .i64 col, .int .i64 2, .int .i64 z.toNat, .int .i64 1, .int .i64 d.toNat, .int .i64 1] 171)
    simp only [World.size_alloc] at this
    exact this⟩
  case round =>
    obtain ⟨i, hi, rfl, rfl, rfl, hb, h7⟩ := hrel
    by_cases h7i : i < 7
    · have h7i' : (i : Int) < 7 := by omega
      obtain ⟨c0, c1⟩ := h7 i h7i
      have hal := atL_le i h7i
      have hac := accL_lt vs HVB.out i hi
      have hvi : vs.getD i 0 < 65536 := HVG.out i h7i
      have hput := Lib.hid (fun W => put_nat (accL vs i) (atL i) (bitsL.getD i 0) (vs.getD i 0) hac (by omega) (by omega) (by omega) W)
      have hsucc := Lib.hid (atL_succ i h7i)
      have hsz := World.block_lt_of_cell? _ _ c0
      have HA := Lib.hid (show accL vs (i + 1) = putv (accL vs i) (atL i) (bitsL.getD i 0) (vs.getD i 0) from rfl)
      generalize vs.getD i 0 = v at *
      generalize bitsL.getD i 0 = bt at *
      go_wp2_with (go_at_call 114; refine (hput.out _).mono ?_; rintro e w2 ⟨rfl, rfl⟩)
      exact ⟨⟨i + 1, by omega, by go_num, by rw [HA.out], by rw [hsucc.out]; go_num, hb.alloc hb.size _, h7.alloc _⟩, by simp [intOf]; omega⟩
    · have h7i' : ¬ (i : Int) < 7 := by omega
      obtain rfl : i = 7 := by omega
      have hfin := Lib.hid HF.out
      go_wp2
      go_ret
      exact ⟨congrArg (fun x : Nat => Ending.returned (.int .u64 (x : Int))) HF.out, hb⟩
end Go.Proofs.YtlpklloagaccoaaGreat
namespace Go.Proofs.YtlpklloagaccoaaGreat
open Go.RowKit
set_option linter.unusedVariables false

theorem readpart_any (x a n : Nat) (Bw Ba : Nat) (w : World) (cw : w.cell? ⟨Bw, 0, none⟩ = some (.int .u64 (x : Nat))) (ca : w.cell? ⟨Ba, 0, none⟩ = some (.int .i64 (a : Nat))) (fa : w.frozen? ⟨Ba, 0, none⟩ = false) (h0 : x < 2 ^ 64) (h1 : a + n ≤ 64) (h2 : n ≤ 16) :
    Calls Tryz.prog 165 #[.int .i64 (n : Nat), .pointer (some ⟨Bw, 0, none⟩), .pointer (some ⟨Ba, 0, none⟩)] w fun e w' => e = .returned (.int .i64 (getv x a n : Nat)) ∧ ∃ m, w' = (w.drewN m).setCell ⟨Ba, 0, none⟩ (.int .i64 (a + n : Nat)) := by
  have hg : getv x a n < 65536 := Nat.lt_of_lt_of_le (Nat.mod_lt _ (Nat.two_pow_pos _)) (Nat.pow_le_pow_right (by decide : 1 ≤ 2) h2)
  have hget := Lib.hid (fun W => get_nat x a n h0 h1 (by omega) W)
  generalize getv x a n = v at *
  go_enter Tryz.func165, Tryz.ntmps165
  go_wp2_with (go_at_call 112; refine (hget.out _).mono ?_; rintro e w1 ⟨rfl, m, rfl⟩)
  go_ret
  exact ⟨by go_num, _, by go_num⟩
theorem eql_one (v : Nat) : ((v : Int) == 1) = (v == 1) := by
  cases h : v == 1
  · have : ¬ v = 1 := by simpa using h
    simp; omega
  · have : v = 1 := by simpa using h
    subst this; rfl
/-- The header in a word. -/
def rdV (x : Nat) : Value := hdV (getv x 0 4 : Nat) (getv x 4 16 : Nat) (getv x 20 16 : Nat) (getv x 36 8 : Nat) (getv x 44 2 : Nat) (getv x 46 1 == 1) (getv x 47 1 == 1)
/-- What lies between two of Read's calls. -/
structure RdI (w0 W : World) (x : Nat) (a : Int) (hs : Array Value) : Prop where
  below : Below w0.heap.size w0 W
  bx : W.heap[w0.heap.size]? = some (.cells #[.int .u64 (x : Nat)] 55 (0, 0))
  br : W.heap[w0.heap.size + 1]? = some (.cells #[.int .i64 0, .int .i64 0, .int .i64 0, .int .i64 0, .int .i64 0, .bool false, .bool false] 65 (0, 0))
  ba : W.heap[w0.heap.size + 1 + 1]? = some (.cells #[.int .i64 a] 3 (0, 0))
  bh : W.heap[w0.heap.size + 1 + 1 + 1]? = some (.cells hs 65 (0, 0))
theorem RdI.set {w0 W : World} {x : Nat} {a : Int} {hs : Array Value} (h : RdI w0 W x a hs) (i : Nat) (v : Value) : RdI w0 (W.setCell ⟨w0.heap.size + 1 + 1 + 1, i, none⟩ v) x a (hs.setIfInBounds i v) := by
  have ho : ∀ b, b ≠ w0.heap.size + 1 + 1 + 1 → (W.setCell ⟨w0.heap.size + 1 + 1 + 1, i, none⟩ v).heap[b]? = W.heap[b]? := fun b hb => Below.heap_setCell _ _ _ _ hb
  exact ⟨h.below.setCell (by simp; omega) _, (ho _ (by omega)).trans h.bx, (ho _ (by omega)).trans h.br, (ho _ (by omega)).trans h.ba, heap_set h.bh i v⟩
theorem readpart_int (x a n : Nat) (ai ni ri : Int) (e1 : ai = a) (e2 : ni = n) (e3 : ri = (a + n : Nat)) (h0 : x < 2 ^ 64) (h1 : a + n ≤ 64) (h2 : n ≤ 16) {w0 w : World} {hs : Array Value} (h : RdI w0 w x ai hs) :
    Calls Tryz.prog 165 #[.int .i64 ni, .pointer (some ⟨w0.heap.size, 0, none⟩), .pointer (some ⟨w0.heap.size + 1 + 1, 0, none⟩)] w fun e w' => e = .returned (.int .i64 (getv x a n : Nat)) ∧ RdI w0 w' x ri hs := by
  subst e1 e2 e3
  refine (readpart_any x a n _ _ w (by simp [World.cell?, h.bx]) (by simp [World.cell?, h.ba]) (by simp [World.frozen?, h.ba]) h0 h1 h2).mono ?_
  rintro e w' ⟨rfl, m, rfl⟩
  have ho : ∀ b, b ≠ w0.heap.size + 1 + 1 → ((w.drewN m).setCell ⟨w0.heap.size + 1 + 1, 0, none⟩ (.int .i64 (a + n : Nat))).heap[b]? = w.heap[b]? := fun b hb => Below.heap_setCell _ _ _ _ hb
  have hs := heap_set (w := w.drewN m) h.ba 0 (.int .i64 (a + n : Nat))
  exact ⟨rfl, (below_drewN h.below m).setCell (by simp; omega) _, (ho _ (by omega)).trans h.bx, (ho _ (by omega)).trans h.br, hs, (ho _ (by omega)).trans h.bh⟩
theorem results_cell {fn : Func} {p : Tmp} {ty : TypeId} (h : fn.results = #[.cell p ty]) (tmps : Array Value) (P : Program) (w : World) :
    (results fn tmps).run P w = ((asAddr (tmps.getD p undef)).run P w).andThen fun a w₁ => (loadVar ty a).run P w₁ := by
  simp only [results, h]
  simp [Sem.run_bind, Result.andThen]
set_option maxRecDepth 100000 in
set_option maxHeartbeats 1000000 in
theorem read_any (x : Nat) (h0 : x < 2 ^ 64) (w : World) : Calls Tryz.prog 107 #[.int .u64 (x : Nat)] w fun e w' => e = .returned (rdV x) ∧ Below w.heap.size w w' := by
  have hmf : ∀ (fn : Fn) (first cap : Array Value) (w : World), (Instr.makeFunc fn first cap).run Tryz.prog w = .ok (.func fn first cap) w := fun _ _ _ _ => rfl
  have P1 := Lib.hid (fun (w0 w' : World) (hs : Array Value) (h : RdI w0 w' x 0 hs) => readpart_int x 0 4 0 4 4 rfl rfl rfl h0 (by omega) (by omega) h)
  have P2 := Lib.hid (fun (w0 w' : World) (hs : Array Value) (h : RdI w0 w' x 4 hs) => readpart_int x 4 16 4 16 20 rfl rfl rfl h0 (by omega) (by omega) h)
  have P3 := Lib.hid (fun (w0 w' : World) (hs : Array Value) (h : RdI w0 w' x 20 hs) => readpart_int x 20 16 20 16 36 rfl rfl rfl h0 (by omega) (by omega) h)
  have P4 := Lib.hid (fun (w0 w' : World) (hs : Array Value) (h : RdI w0 w' x 36 hs) => readpart_int x 36 8 36 8 44 rfl rfl rfl h0 (by omega) (by omega) h)
  have P5 := Lib.hid (fun (w0 w' : World) (hs : Array Value) (h : RdI w0 w' x 44 hs) => readpart_int x 44 2 44 2 46 rfl rfl rfl h0 (by omega) (by omega) h)
  have P6 := Lib.hid (fun (w0 w' : World) (hs : Array Value) (h : RdI w0 w' x 46 hs) => readpart_int x 46 1 46 1 47 rfl rfl rfl h0 (by omega) (by omega) h)
  have P7 := Lib.hid (fun (w0 w' : World) (hs : Array Value) (h : RdI w0 w' x 47 hs) => readpart_int x 47 1 47 1 48 rfl rfl rfl h0 (by omega) (by omega) h)
  obtain ⟨V1, hv1⟩ : ∃ v, v = getv x 0 4 := ⟨_, rfl⟩
  obtain ⟨V2, hv2⟩ : ∃ v, v = getv x 4 16 := ⟨_, rfl⟩
  obtain ⟨V3, hv3⟩ : ∃ v, v = getv x 20 16 := ⟨_, rfl⟩
  obtain ⟨V4, hv4⟩ : ∃ v, v = getv x 36 8 := ⟨_, rfl⟩
  obtain ⟨V5, hv5⟩ : ∃ v, v = getv x 44 2 := ⟨_, rfl⟩
  obtain ⟨V6, hv6⟩ : ∃ v, v = getv x 46 1 := ⟨_, rfl⟩
  obtain ⟨V7, hv7⟩ : ∃ v, v = getv x 47 1 := ⟨_, rfl⟩
  have HR := Lib.hid (show rdV x = hdV V1 V2 V3 V4 V5 ((V6 : Int) == 1) ((V7 : Int) == 1) by rw [eql_one, eql_one, hv1, hv2, hv3, hv4, hv5, hv6, hv7]; rfl)
  rw [← hv1] at P1
  rw [← hv2] at P2
  rw [← hv3] at P3
  rw [← hv4] at P4
  rw [← hv5] at P5
  rw [← hv6] at P6
  rw [← hv7] at P7
  clear hv1 hv2 hv3 hv4 hv5 hv6 hv7
  go_enter Tryz.func107, Tryz.ntmps107
  go_wp2_with fail
  go_at_call 165
  have hI : RdI w ((((w.alloc (.cells #[.int .u64 (x : Nat)] 55)).alloc (.cells #[.int .i64 0, .int .i64 0, .int .i64 0, .int .i64 0, .int .i64 0, .bool false, .bool false] 65)).alloc (.cells #[.int .i64 0] 3)).alloc (.cells #[.int .i64 0, .int .i64 0, .int .i64 0, .int .i64 0, .int .i64 0, .bool false, .bool false] 65)) x 0 #[.int .i64 0, .int .i64 0, .int .i64 0, .int .i64 0, .int .i64 0, .bool false, .bool false] := by
    have sz : ∀ (W : World) (o : Obj) (n : Nat), n < W.heap.size → (W.alloc o).heap[n]? = W.heap[n]? := fun W o n h => Below.heap_alloc W o n h
    have nw : ∀ (W : World) (o : Obj) (n : Nat), n = W.heap.size → (W.alloc o).heap[n]? = some o := fun W o n h => by subst h; exact heap_alloc_new W o
    refine ⟨by repeat (first | exact Below.refl _ _ | refine Below.alloc ?_ (by first | omega | (simp; done) | (simp; omega)) _), ?_, ?_, ?_, ?_⟩
    · rw [sz _ _ _ (by simp only [World.size_alloc]; omega), sz _ _ _ (by simp only [World.size_alloc]; omega), sz _ _ _ (by simp only [World.size_alloc]; omega)]; exact nw _ _ _ rfl
    · rw [sz _ _ _ (by simp only [World.size_alloc]; omega), sz _ _ _ (by simp only [World.size_alloc]; omega)]; exact nw _ _ _ (by simp only [World.size_alloc])
    · rw [sz _ _ _ (by simp only [World.size_alloc]; omega)]; exact nw _ _ _ (by simp only [World.size_alloc])
    · exact nw _ _ _ (by simp only [World.size_alloc])
  refine (P1.out _ _ _ hI).mono ?_
  clear hI
  rintro e w1 ⟨rfl, hI1⟩
  have c1 : w1.cell? ⟨w.heap.size + 1 + 1 + 1, 0, none⟩ = some (.int .i64 0) := by simp [World.cell?, hI1.bh]
  have d1 : w1.frozen? ⟨w.heap.size + 1 + 1 + 1, 0, none⟩ = false := by simp [World.frozen?, hI1.bh]
  go_wp2_with fail
  go_at_call 165
  have hI := hI1.set 0 (.int .i64 V1)
  refine (P2.out _ _ _ hI).mono ?_
  clear hI
  rintro e w2 ⟨rfl, hI2⟩
  clear hI1
  have c2 : w2.cell? ⟨w.heap.size + 1 + 1 + 1, 1, none⟩ = some (.int .i64 0) := by simp [World.cell?, hI2.bh]
  have d2 : w2.frozen? ⟨w.heap.size + 1 + 1 + 1, 1, none⟩ = false := by simp [World.frozen?, hI2.bh]
  go_wp2_with fail
  go_at_call 165
  have hI := hI2.set 1 (.int .i64 V2)
  refine (P3.out _ _ _ hI).mono ?_
  clear hI
  rintro e w3 ⟨rfl, hI3⟩
  clear hI2
  have c3 : w3.cell? ⟨w.heap.size + 1 + 1 + 1, 2, none⟩ = some (.int .i64 0) := by simp [World.cell?, hI3.bh]
  have d3 : w3.frozen? ⟨w.heap.size + 1 + 1 + 1, 2, none⟩ = false := by simp [World.frozen?, hI3.bh]
  go_wp2_with fail
  go_at_call 165
  have hI := hI3.set 2 (.int .i64 V3)
  refine (P4.out _ _ _ hI).mono ?_
  clear hI
  rintro e w4 ⟨rfl, hI4⟩
  clear hI3
  have c4 : w4.cell? ⟨w.heap.size + 1 + 1 + 1, 3, none⟩ = some (.int .i64 0) := by simp [World.cell?, hI4.bh]
  have d4 : w4.frozen? ⟨w.heap.size + 1 + 1 + 1, 3, none⟩ = false := by simp [World.frozen?, hI4.bh]
  go_wp2_with fail
  go_at_call 165
  have hI := hI4.set 3 (.int .i64 V4)
  refine (P5.out _ _ _ hI).mono ?_
  clear hI
  rintro e w5 ⟨rfl, hI5⟩
  clear hI4
  have c5 : w5.cell? ⟨w.heap.size + 1 + 1 + 1, 4, none⟩ = some (.int .i64 0) := by simp [World.cell?, hI5.bh]
  have d5 : w5.frozen? ⟨w.heap.size + 1 + 1 + 1, 4, none⟩ = false := by simp [World.frozen?, hI5.bh]
  go_wp2_with fail
  go_at_call 165
  have hI := hI5.set 4 (.int .i64 V5)
  refine (P6.out _ _ _ hI).mono ?_
  clear hI
  rintro e w6 ⟨rfl, hI6⟩
  clear hI5
  have c6 : w6.cell? ⟨w.heap.size + 1 + 1 + 1, 5, none⟩ = some (.bool false) := by simp [World.cell?, hI6.bh]
  have d6 : w6.frozen? ⟨w.heap.size + 1 + 1 + 1, 5, none⟩ = false := by simp [World.frozen?, hI6.bh]
  go_wp2_with fail
  go_at_call 165
  have hI := hI6.set 5 (.bool ((V6 : Int) == 1))
  refine (P7.out _ _ _ hI).mono ?_
  clear hI
  rintro e w7 ⟨rfl, hI7⟩
  clear hI6
  have c7 : w7.cell? ⟨w.heap.size + 1 + 1 + 1, 6, none⟩ = some (.bool false) := by simp [World.cell?, hI7.bh]
  have d7 : w7.frozen? ⟨w.heap.size + 1 + 1 + 1, 6, none⟩ = false := by simp [World.frozen?, hI7.bh]
  have x0 : w7.cell? ⟨w.heap.size + 1 + 1 + 1, 0, none⟩ = some (.int .i64 V1) := by simp [World.cell?, hI7.bh]
  have x1 : w7.cell? ⟨w.heap.size + 1 + 1 + 1, 1, none⟩ = some (.int .i64 V2) := by simp [World.cell?, hI7.bh]
  have x2 : w7.cell? ⟨w.heap.size + 1 + 1 + 1, 2, none⟩ = some (.int .i64 V3) := by simp [World.cell?, hI7.bh]
  have x3 : w7.cell? ⟨w.heap.size + 1 + 1 + 1, 3, none⟩ = some (.int .i64 V4) := by simp [World.cell?, hI7.bh]
  have x4 : w7.cell? ⟨w.heap.size + 1 + 1 + 1, 4, none⟩ = some (.int .i64 V5) := by simp [World.cell?, hI7.bh]
  have x5 : w7.cell? ⟨w.heap.size + 1 + 1 + 1, 5, none⟩ = some (.bool ((V6 : Int) == 1)) := by simp [World.cell?, hI7.bh]
  have y0 : w7.cell? ⟨w.heap.size + 1, 0, none⟩ = some (.int .i64 0) := by simp [World.cell?, hI7.br]
  have z0 : w7.frozen? ⟨w.heap.size + 1, 0, none⟩ = false := by simp [World.frozen?, hI7.br]
  have y1 : w7.cell? ⟨w.heap.size + 1, 1, none⟩ = some (.int .i64 0) := by simp [World.cell?, hI7.br]
  have z1 : w7.frozen? ⟨w.heap.size + 1, 1, none⟩ = false := by simp [World.frozen?, hI7.br]
  have y2 : w7.cell? ⟨w.heap.size + 1, 2, none⟩ = some (.int .i64 0) := by simp [World.cell?, hI7.br]
  have z2 : w7.frozen? ⟨w.heap.size + 1, 2, none⟩ = false := by simp [World.frozen?, hI7.br]
  have y3 : w7.cell? ⟨w.heap.size + 1, 3, none⟩ = some (.int .i64 0) := by simp [World.cell?, hI7.br]
  have z3 : w7.frozen? ⟨w.heap.size + 1, 3, none⟩ = false := by simp [World.frozen?, hI7.br]
  have y4 : w7.cell? ⟨w.heap.size + 1, 4, none⟩ = some (.int .i64 0) := by simp [World.cell?, hI7.br]
  have z4 : w7.frozen? ⟨w.heap.size + 1, 4, none⟩ = false := by simp [World.frozen?, hI7.br]
  have y5 : w7.cell? ⟨w.heap.size + 1, 5, none⟩ = some (.bool false) := by simp [World.cell?, hI7.br]
  have z5 : w7.frozen? ⟨w.heap.size + 1, 5, none⟩ = false := by simp [World.frozen?, hI7.br]
  have y6 : w7.cell? ⟨w.heap.size + 1, 6, none⟩ = some (.bool false) := by simp [World.cell?, hI7.br]
  have z6 : w7.frozen? ⟨w.heap.size + 1, 6, none⟩ = false := by simp [World.frozen?, hI7.br]
  have hI := hI7.below
  clear hI7
  have HB := Lib.hid hI
  clear hI
  go_wp2
  refine bodyPost_ret (v := hdV V1 V2 V3 V4 V5 ((V6 : Int) == 1) ((V7 : Int) == 1)) ?_ rfl ⟨congrArg Ending.returned HR.out.symm, ?_⟩
  · rw [results_cell (p := 2) (ty := 65) rfl]
    go_simp
  · iterate 8 refine Below.setCell ?_ (by first | (simp; done) | (simp; omega)) _
    exact HB.out
end Go.Proofs.YtlpklloagaccoaaGreat
