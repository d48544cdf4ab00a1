/- The law's own reading of a header's word (ReadHeader, RightHeader, Word). No condition. -/
import Derived.Test.YtlpklloagaccoaaGreatDamage
import Derived.Outline
namespace Go.Proofs.YtlpklloagaccoaaGreat
open Go.RowKit
set_option linter.unusedVariables false

theorem and_mask (y n : Nat) (hy : y < 2 ^ 64) (hn : n ≤ 63) (m : Int) (hm : m = ((2 ^ n - 1 : Nat) : Int)) : bits .and .u64 (y : Int) m = ((y % 2 ^ n : Nat) : Int) := by
  subst hm
  have h1 : (2 ^ n : Nat) ≤ 2 ^ 63 := Nat.pow_le_pow_right (by omega) hn
  rw [(bits_u64 y (2 ^ n - 1) hy (by omega)).1, Nat.and_two_pow_sub_one_eq_mod]
theorem shr_nat (x k : Nat) (d : Int) (hd : d = ((2 ^ k : Nat) : Int)) : (x : Int) / d = ((x / 2 ^ k : Nat) : Int) := by
  subst hd; exact (Int.natCast_ediv x (2 ^ k)).symm
theorem getv_lt (x a n : Nat) : getv x a n < 2 ^ n := Nat.mod_lt _ (Nat.two_pow_pos n)
theorem wrap64_nat (n : Nat) (h : n < 65536) : wrap64 (n : Int) = (n : Int) := by unfold wrap64; omega
theorem and_getv (x a n : Nat) (d m : Int) (h0 : x < 2 ^ 64) (hn : n ≤ 63) (hd : d = ((2 ^ a : Nat) : Int)) (hm : m = ((2 ^ n - 1 : Nat) : Int)) : bits .and .u64 ((x : Int) / d) m = ((getv x a n : Nat) : Int) := by
  rw [shr_nat x a d hd, and_mask (x / 2 ^ a) n (Nat.lt_of_le_of_lt (Nat.div_le_self _ _) h0) hn m hm]
  rfl
set_option maxRecDepth 100000 in
theorem ref_read (x : Nat) (h0 : x < 2 ^ 64) (w : World) : Calls Tryz.prog 55 #[.int .u64 (x : Nat)] w fun e w' => e = .returned (rdV x) ∧ Below w.heap.size w w' := by
  have f0 : bits .and .u64 (x : Int) 15 = ((getv x 0 4 : Nat) : Int) := by
    have := and_getv x 0 4 1 15 h0 (by omega) rfl rfl
    rwa [Int.ediv_one] at this
  have f1 := and_getv x 4 16 16 65535 h0 (by omega) rfl rfl
  have f2 := and_getv x 20 16 1048576 65535 h0 (by omega) rfl rfl
  have f3 := and_getv x 36 8 68719476736 255 h0 (by omega) rfl rfl
  have f4 := and_getv x 44 2 17592186044416 3 h0 (by omega) rfl rfl
  have f5 := and_getv x 46 1 70368744177664 1 h0 (by omega) rfl rfl
  have f6 := and_getv x 47 1 140737488355328 1 h0 (by omega) rfl rfl
  have l0 := getv_lt x 0 4
  have l1 := getv_lt x 4 16
  have l2 := getv_lt x 20 16
  have l3 := getv_lt x 36 8
  have l4 := getv_lt x 44 2
  have H := Lib.hid (And.intro f0 (And.intro f1 (And.intro f2 (And.intro f3 (And.intro f4 (And.intro f5 f6))))))
  clear f0 f1 f2 f3 f4 f5 f6
  go_enter Tryz.func55, Tryz.ntmps55
  go_wp2_with fail
  obtain ⟨f0, f1, f2, f3, f4, f5, f6⟩ := H.out
  rw [f0, f1, f2, f3, f4, f5, f6, wrap64_nat _ (by omega), wrap64_nat _ (by omega), wrap64_nat _ (by omega), wrap64_nat _ (by omega), wrap64_nat _ (by omega), eql_one, eql_one]
  refine bodyPost_ret (v := rdV x) ?_ rfl ⟨rfl, (Below.refl _ _).alloc (Nat.le_refl _) _⟩
  have hb := heap_alloc_new w (.cells #[.int .i64 (getv x 0 4 : Nat), .int .i64 (getv x 4 16 : Nat), .int .i64 (getv x 20 16 : Nat), .int .i64 (getv x 36 8 : Nat), .int .i64 (getv x 44 2 : Nat), .bool (getv x 46 1 == 1), .bool (getv x 47 1 == 1)] 65)
  simp [results, Tryz.results55, go_sem, rdV]
set_option maxRecDepth 100000 in
theorem ref_right (k c rr nn col : Nat) (z d : Bool) (w : World) : Calls Tryz.prog 56 #[hdV k c rr nn col z d] w fun e w' => e = .returned (.bool (rightB k c rr nn col)) ∧ Below w.heap.size w w' := by
  go_enter Tryz.func56, Tryz.ntmps56
  go_wp2
  all_goals
    go_ret
    exact ⟨ret_bool (by unfold rightB inB; first | (simp_all; done) | (simp_all; intros; omega)), by repeat (first | exact Below.refl _ _ | refine Below.alloc ?_ (by first | omega | (simp; done) | (simp; omega)) _ | refine Below.drew ?_)⟩
theorem wrap_u64_nat (n : Nat) (h : n < 2 ^ 64) : IntKind.u64.wrap (n : Int) = (n : Int) := by rw [IntKind.wrap_u64]; omega
theorem or_step (A B n : Nat) (P : Int) (hP : P = ((2 ^ n : Nat) : Int)) (hA : A < 2 ^ n) (hA2 : A < 2 ^ 64) (hB : 2 ^ n * B < 2 ^ 64) : bits .or .u64 (A : Int) (IntKind.u64.wrap ((B : Int) * P)) = ((A + 2 ^ n * B : Nat) : Int) := by
  subst hP
  have e : (B : Int) * ((2 ^ n : Nat) : Int) = ((2 ^ n * B : Nat) : Int) := by rw [Int.natCast_mul, Int.mul_comm]
  rw [e, wrap_u64_nat _ hB, (bits_u64 A (2 ^ n * B) hA2 hB).2, Nat.or_comm, ← Nat.two_pow_add_eq_or_of_lt hA, Nat.add_comm]
theorem word_or (k c rr nn col z d : Nat) (hk : k ≤ 8) (hc : c ≤ 4000) (hr : rr ≤ 4000) (hn : nn ≤ 255) (hcol : col ≤ 3) (hz : z < 2) (hd : d < 2) :
    bits .or .u64 (bits .or .u64 (bits .or .u64 (bits .or .u64 (bits .or .u64 (bits .or .u64 (IntKind.u64.wrap (k : Int)) (IntKind.u64.wrap (IntKind.u64.wrap (c : Int) * 16))) (IntKind.u64.wrap (IntKind.u64.wrap (rr : Int) * 1048576))) (IntKind.u64.wrap (IntKind.u64.wrap (nn : Int) * 68719476736))) (IntKind.u64.wrap (IntKind.u64.wrap (col : Int) * 17592186044416))) (IntKind.u64.wrap ((z : Int) * 70368744177664))) (IntKind.u64.wrap ((d : Int) * 140737488355328)) = ((k + 16 * c + 1048576 * rr + 68719476736 * nn + 17592186044416 * col + 70368744177664 * z + 140737488355328 * d : Nat) : Int) := by
  rw [wrap_u64_nat k (by omega), wrap_u64_nat c (by omega), wrap_u64_nat rr (by omega), wrap_u64_nat nn (by omega), wrap_u64_nat col (by omega)]
  rw [or_step k c 4 16 rfl (by omega) (by omega) (by omega)]
  rw [or_step _ rr 20 1048576 rfl (by omega) (by omega) (by omega)]
  rw [or_step _ nn 36 68719476736 rfl (by omega) (by omega) (by omega)]
  rw [or_step _ col 44 17592186044416 rfl (by omega) (by omega) (by omega)]
  rw [or_step _ z 46 70368744177664 rfl (by omega) (by omega) (by omega)]
  rw [or_step _ d 47 140737488355328 rfl (by omega) (by omega) (by omega)]
theorem ref_flag (z : Bool) (w : World) : Calls Tryz.prog 108 #[.bool z] w fun e w' => e = .returned (.int .u64 (z.toNat : Nat)) ∧ w = w' := by
  cases z <;>
  · go_enter Tryz.func108, Tryz.ntmps108
    go_wp2
    go_ret
    exact ⟨rfl, rfl⟩
set_option maxRecDepth 100000 in
theorem ref_word_no (k c rr nn col : Nat) (z d : Bool) (h : rightB k c rr nn col = false) (w : World) : Calls Tryz.prog 57 #[hdV k c rr nn col z d] w fun e w' => e = .returned (.int .u64 0) ∧ Below w.heap.size w w' := by
  have HR := Lib.hid (fun W => show Calls Tryz.prog 56 #[hdV k c rr nn col z d] W fun e w' => e = .returned (.bool false) ∧ Below W.heap.size W w' from by rw [← h]; exact ref_right k c rr nn col z d W)
  clear h
  go_enter Tryz.func57, Tryz.ntmps57
  go_wp2_with fail
  go_at_call 56
  refine (HR.out _).mono ?_
  rintro e w2 ⟨rfl, hb⟩
  have HB := Lib.hid hb
  clear hb
  go_wp2_with fail
  go_ret
  exact ⟨rfl, ((Below.refl _ _).alloc (Nat.le_refl _) _).trans (HB.out.mono (by simp))⟩
set_option maxRecDepth 100000 in
theorem ref_word_yes (k c rr nn col : Nat) (z d : Bool) (h : rightB k c rr nn col = true) (w : World) : Calls Tryz.prog 57 #[hdV k c rr nn col z d] w fun e w' => e = .returned (.int .u64 (hdW k c rr nn col z d : Nat)) ∧ Below w.heap.size w w' := by
  have HR := Lib.hid (fun W => show Calls Tryz.prog 56 #[hdV k c rr nn col z d] W fun e w' => e = .returned (.bool true) ∧ Below W.heap.size W w' from by rw [← h]; exact ref_right k c rr nn col z d W)
  have hb := h
  simp only [rightB, inB, Bool.and_eq_true, decide_eq_true_eq] at hb
  have HH := Lib.hid hb
  clear h hb
  go_enter Tryz.func57, Tryz.ntmps57
  go_wp2_with fail
  go_at_call 56
  refine (HR.out _).mono ?_
  rintro e w2 ⟨rfl, hb⟩
  have hX := (hb.block w.heap.size (by simp)).trans (heap_alloc_new w _)
  have x0 : w2.cell? ⟨w.heap.size, 0, none⟩ = some (.int .i64 (k : Nat)) := by simp [World.cell?, hX]
  have x1 : w2.cell? ⟨w.heap.size, 1, none⟩ = some (.int .i64 (c : Nat)) := by simp [World.cell?, hX]
  have x2 : w2.cell? ⟨w.heap.size, 2, none⟩ = some (.int .i64 (rr : Nat)) := by simp [World.cell?, hX]
  have x3 : w2.cell? ⟨w.heap.size, 3, none⟩ = some (.int .i64 (nn : Nat)) := by simp [World.cell?, hX]
  have x4 : w2.cell? ⟨w.heap.size, 4, none⟩ = some (.int .i64 (col : Nat)) := by simp [World.cell?, hX]
  have x5 : w2.cell? ⟨w.heap.size, 5, none⟩ = some (.bool z) := by simp [World.cell?, hX]
  have x6 : w2.cell? ⟨w.heap.size, 6, none⟩ = some (.bool d) := by simp [World.cell?, hX]
  have HB := Lib.hid (((Below.refl w.heap.size w).alloc (Nat.le_refl _) _).trans (hb.mono (by simp)))
  have hl := lt_of_block hX
  clear hb hX
  go_wp2_with fail
  go_quiet ((go_at_call 108; exact Calls.quiet_of_same ((ref_flag _ _).mono fun _ _ h => ⟨h.1, h.2.symm⟩)))
  have hw := word_or k c rr nn col z.toNat d.toNat (by have := HH.out; omega) (by have := HH.out; omega) (by have := HH.out; omega) (by have := HH.out; omega) (by have := HH.out; omega) (by cases z <;> decide) (by cases d <;> decide)
  rw [hw]
  clear hw
  go_wp2_with fail
  go_ret
  exact ⟨rfl, below_drewN HB.out nq⟩
end Go.Proofs.YtlpklloagaccoaaGreat
