/- Headers of objects as words: Word, Read, in plain arithmetic. Conditions: none on the header; a word of 64 bits. -/
import Derived.Test.YtlpklloagaccoaaRight
import Derived.Deep.RegionHeld3
namespace Go.Proofs.Ytlpklloagaccoaa
open Go.RowKit
set_option linter.unusedVariables false

theorem hflag_any (z : Bool) (w : World) : Calls Try.prog 52 #[.bool z] w fun e w' => e = .returned (.int .i64 (z.toNat : Nat)) ∧ w' = w := by
  cases z
  all_goals
    go_enter Try.func52, Try.ntmps52
    go_wp2
    go_ret
    exact ⟨rfl, rfl⟩

def bitsL : List Nat := [4, 16, 16, 8, 2, 1, 1]
def atL (i : Nat) : Nat := (bitsL.take i).sum
def accL (vs : List Nat) : Nat → Nat
  | 0 => 0
  | i + 1 => putv (accL vs i) (atL i) (bitsL.getD i 0) (vs.getD i 0)
/-- Seven pairs in a row. -/
def Cells7 (w : World) (g : Nat) (vs : List Nat) : Prop := ∀ i, i < 7 → w.cell? ⟨g, i * 2, none⟩ = some (.int .i64 (vs.getD i 0 : Nat)) ∧ w.cell? ⟨g, i * 2 + 1, none⟩ = some (.int .i64 (bitsL.getD i 0 : Nat))
theorem Cells7.alloc {w : World} {g : Nat} {vs : List Nat} (h : Cells7 w g vs) (o : Obj) : Cells7 (w.alloc o) g vs := fun i hi => by
  obtain ⟨h1, h2⟩ := h i hi
  have hl := World.block_lt_of_cell? _ _ h1
  exact ⟨(World.cell?_alloc_lt w o _ hl).trans h1, (World.cell?_alloc_lt w o ⟨g, i * 2 + 1, none⟩ hl).trans h2⟩
theorem cells7_new {w : World} {g : Nat} {t : TypeId} (a b c d e f h : Nat) (hb : w.heap[g]? = some (.cells #[.int .i64 a, .int .i64 4, .int .i64 b, .int .i64 16, .int .i64 c, .int .i64 16, .int .i64 d, .int .i64 8, .int .i64 e, .int .i64 2, .int .i64 f, .int .i64 1, .int .i64 h, .int .i64 1] t (0, 0))) :
    Cells7 w g [a, b, c, d, e, f, h] := by
  intro i hi
  have hc : i = 0 ∨ i = 1 ∨ i = 2 ∨ i = 3 ∨ i = 4 ∨ i = 5 ∨ i = 6 := by omega
  rcases hc with rfl | rfl | rfl | rfl | rfl | rfl | rfl <;> simp [World.cell?, hb, bitsL]
theorem atL_succ (i : Nat) (h : i < 7) : atL (i + 1) = atL i + bitsL.getD i 0 := by
  have hc : i = 0 ∨ i = 1 ∨ i = 2 ∨ i = 3 ∨ i = 4 ∨ i = 5 ∨ i = 6 := by omega
  rcases hc with rfl | rfl | rfl | rfl | rfl | rfl | rfl <;> decide
theorem atL_le (i : Nat) (h : i < 7) : atL i + bitsL.getD i 0 ≤ 48 ∧ bitsL.getD i 0 ≤ 16 := by
  have hc : i = 0 ∨ i = 1 ∨ i = 2 ∨ i = 3 ∨ i = 4 ∨ i = 5 ∨ i = 6 := by omega
  rcases hc with rfl | rfl | rfl | rfl | rfl | rfl | rfl <;> decide
theorem accL_lt (vs : List Nat) (hv : ∀ v ∈ vs, v < 65536) : ∀ i, i ≤ 7 → accL vs i < 2 ^ 64
  | 0, _ => by show 0 < 2 ^ 64; decide
  | i + 1, h => putv_lt (accL_lt vs hv i (by omega)) (by have := (atL_le i (by omega)).1; omega) (by
    have : vs.getD i 0 < 65536 := by
      rcases Nat.lt_or_ge i vs.length with hl | hl
      · simpa [List.getD, hl] using hv _ (List.getElem_mem hl)
      · simp [List.getD, List.getElem?_eq_none hl]
    omega)
theorem putv_low {x a n v : Nat} (hx : x < 2 ^ a) (hv : v < 2 ^ n) : putv x a n v = 2 ^ a * v + x := by
  unfold putv
  rw [Nat.mod_eq_of_lt hv, Nat.mod_eq_of_lt hx, Nat.div_eq_of_lt (Nat.lt_of_lt_of_le hx (Nat.pow_le_pow_right (by decide) (Nat.le_add_right _ _)))]
  simp
/-- The word of a header. -/
def hdW (k c r n col : Nat) (z d : Bool) : Nat := k + 16 * c + 1048576 * r + 68719476736 * n + 17592186044416 * col + 70368744177664 * z.toNat + 140737488355328 * d.toNat
theorem accL_seven (k c r n col z d : Nat) (hk : k < 16) (hc : c < 65536) (hr : r < 65536) (hn : n < 256) (hcol : col < 4) (hz : z < 2) (hd : d < 2) :
    accL [k, c, r, n, col, z, d] 7 = k + 16 * c + 1048576 * r + 68719476736 * n + 17592186044416 * col + 70368744177664 * z + 140737488355328 * d := by
  have s1 : accL [k, c, r, n, col, z, d] 1 = k := by
    show putv 0 0 4 k = _
    rw [putv_low (by decide) (by omega)]; omega
  have s2 : accL [k, c, r, n, col, z, d] 2 = k + 16 * c := by
    show putv (accL [k, c, r, n, col, z, d] 1) 4 16 c = _
    rw [s1, putv_low (by omega) (by omega)]; omega
  have s3 : accL [k, c, r, n, col, z, d] 3 = k + 16 * c + 1048576 * r := by
    show putv (accL [k, c, r, n, col, z, d] 2) 20 16 r = _
    rw [s2, putv_low (by omega) (by omega)]; omega
  have s4 : accL [k, c, r, n, col, z, d] 4 = k + 16 * c + 1048576 * r + 68719476736 * n := by
    show putv (accL [k, c, r, n, col, z, d] 3) 36 8 n = _
    rw [s3, putv_low (by omega) (by omega)]; omega
  have s5 : accL [k, c, r, n, col, z, d] 5 = k + 16 * c + 1048576 * r + 68719476736 * n + 17592186044416 * col := by
    show putv (accL [k, c, r, n, col, z, d] 4) 44 2 col = _
    rw [s4, putv_low (by omega) (by omega)]; omega
  have s6 : accL [k, c, r, n, col, z, d] 6 = k + 16 * c + 1048576 * r + 68719476736 * n + 17592186044416 * col + 70368744177664 * z := by
    show putv (accL [k, c, r, n, col, z, d] 5) 46 1 z = _
    rw [s5, putv_low (by omega) (by omega)]; omega
  show putv (accL [k, c, r, n, col, z, d] 6) 47 1 d = _
  rw [s6, putv_low (by omega) (by omega)]; omega
theorem word_wrong (k c r n col : Int) (z d : Bool) (h : rightB k c r n col = false) (w : World) : Calls Try.prog 26 #[hdV k c r n col z d] w fun e w' => e = .returned (.int .u64 0) ∧ ∃ o1 o2, (w.alloc o1).alloc o2 = w' := by
  go_enter Try.func26, Try.ntmps26
  go_wp2_with (go_at_call 22; refine (right_any _ _ _ _ _ _ _ _).mono ?_; rintro e w1 ⟨rfl, o2, rfl⟩; rw [h])
  go_ret
  exact ⟨rfl, _, _, rfl⟩
set_option maxRecDepth 100000 in
set_option maxHeartbeats 1000000 in
theorem word_right (k c r n col : Nat) (z d : Bool) (h : rightB k c r n col = true) (w : World) : Calls Try.prog 26 #[hdV k c r n col z d] w fun e w' => e = .returned (.int .u64 (hdW k c r n col z d : Nat)) ∧ Below w.heap.size w w' := by
  obtain ⟨h1, h2, h3, h4, h5⟩ : (c ≤ 4000 ∧ r ≤ 4000 ∧ k ≤ 8 ∧ n ≤ 255 ∧ col ≤ 3) := by
    simp [rightB, inB] at h; omega
  obtain ⟨vs, hvs⟩ : ∃ vs, vs = [k, c, r, n, col, z.toNat, d.toNat] := ⟨_, rfl⟩
  have hz : z.toNat < 2 := by cases z <;> decide
  have hd : d.toNat < 2 := by cases d <;> decide
  have HV := Lib.hid hvs
  have HVB : Hid (∀ v ∈ vs, v < 65536) := by
    rw [hvs]; intro v hv
    simp at hv; omega
  have HVG : Hid (∀ i, i < 7 → vs.getD i 0 < 65536) := fun i _ => by
    rcases Nat.lt_or_ge i vs.length with hl | hl
    · simpa [List.getD, hl] using HVB.out _ (List.getElem_mem hl)
    · simp [List.getD, List.getElem?_eq_none hl]
  have HF : Hid (accL vs 7 = hdW k c r n col z d) := by
    rw [hvs]; exact accL_seven k c r n col z.toNat d.toNat (by omega) (by omega) (by omega) (by omega) (by omega) hz hd
  clear hvs h1 h2 h3 h4 h5 hz hd
  go_enter Try.func26, Try.ntmps26
  go_wp2_with (go_at_call 22; refine (right_any _ _ _ _ _ _ _ _).mono ?_; rintro e w1 ⟨rfl, o2, rfl⟩; rw [h])
  go_region_held3 (fun w' => w'.cell? ⟨w.heap.size, 0, none⟩ = some (.int .i64 (k : Int)) ∧ w'.cell? ⟨w.heap.size, 1, none⟩ = some (.int .i64 (c : Int)) ∧ w'.cell? ⟨w.heap.size, 2, none⟩ = some (.int .i64 (r : Int)) ∧ w'.cell? ⟨w.heap.size, 3, none⟩ = some (.int .i64 (n : Int)) ∧ w'.cell? ⟨w.heap.size, 4, none⟩ = some (.int .i64 (col : Int)) ∧ w'.cell? ⟨w.heap.size, 5, none⟩ = some (.bool z) ∧ w'.cell? ⟨w.heap.size, 6, none⟩ = some (.bool d)) (go_keep)
    (first | (go_at_call 52; refine (hflag_any _ _).mono ?_; rintro e w' ⟨rfl, rfl⟩))
  go_wp2
  go_loopw [3, 4, 35] (fun a b e wr => ∃ i : Nat, i ≤ 7 ∧ e = .int .i64 i ∧ a = .int .u64 (accL vs i : Nat) ∧ b = .int .i64 (atL i : Nat) ∧ Below w.heap.size w wr ∧ Cells7 wr (w.heap.size + 1 + 1) vs) (fun _ _ e _ => 7 - (intOf e).toNat)
  case atStart => exact ⟨0, by omega, rfl, rfl, rfl, (by repeat (first | exact Below.refl _ _ | refine Below.alloc ?_ (by first | omega | (simp; done) | (simp; omega)) _ | refine Below.drew ?_)), by
    rw [HV.out]
    refine cells7_new (t := 104) _ _ _ _ _ _ _ ?_
    have := heap_alloc_new ((w.alloc (.cells #[.int .i64 k, .int .i64 c, .int .i64 r, .int .i64 n, .int .i64 col, .bool z, .bool d] 53)).alloc o2) (.cells #[.int .i64 k, .int .i64 4, .int .i64 c, .int .i64 16, .int .i64 r, .int .i64 16, .int .i64 n, .int .i64 8, .int .i64 col, .int .i64 2, .int .i64 z.toNat, .int .i64 1, .int .i64 d.toNat, .int .i64 1] 104)
    simp only [World.size_alloc] at this
    exact this⟩
  case round =>
    obtain ⟨i, hi, rfl, rfl, rfl, hb, h7⟩ := hrel
    by_cases h7i : i < 7
    · have h7i' : (i : Int) < 7 := by omega
      obtain ⟨c0, c1⟩ := h7 i h7i
      have hal := atL_le i h7i
      have hac := accL_lt vs HVB.out i hi
      have hvi : vs.getD i 0 < 65536 := HVG.out i h7i
      have hput := Lib.hid (fun W => put_nat (accL vs i) (atL i) (bitsL.getD i 0) (vs.getD i 0) hac (by omega) (by omega) (by omega) W)
      have hsucc := Lib.hid (atL_succ i h7i)
      have hsz := World.block_lt_of_cell? _ _ c0
      have HA := Lib.hid (show accL vs (i + 1) = putv (accL vs i) (atL i) (bitsL.getD i 0) (vs.getD i 0) from rfl)
      generalize vs.getD i 0 = v at *
      generalize bitsL.getD i 0 = bt at *
      go_wp2_with (go_at_call 53; refine (hput.out _).mono ?_; rintro e w2 ⟨rfl, rfl⟩)
      exact ⟨⟨i + 1, by omega, by go_num, by rw [HA.out], by rw [hsucc.out]; go_num, hb.alloc hb.size _, h7.alloc _⟩, by simp [intOf]; omega⟩
    · have h7i' : ¬ (i : Int) < 7 := by omega
      obtain rfl : i = 7 := by omega
      have hfin := Lib.hid HF.out
      go_wp2
      go_ret
      exact ⟨congrArg (fun x : Nat => Ending.returned (.int .u64 (x : Int))) HF.out, hb⟩
end Go.Proofs.Ytlpklloagaccoaa
