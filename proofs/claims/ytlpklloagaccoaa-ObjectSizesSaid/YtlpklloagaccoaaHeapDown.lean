/- container/heap over the rows of least: down, Pop: what they leave, to the place. Conditions: the row is not empty, and not of more than 2^40 numbers. -/
import Derived.Test.YtlpklloagaccoaaHeap
import Derived.Deep.LoopGhost
namespace Go.Proofs.Ytlpklloagaccoaa
open Go.RowKit
set_option linter.unusedVariables false

/-- The lesser child. -/
def pickJ (xs : List Int) (i n : Nat) : Nat := if 2 * i + 2 < n ∧ xs.getD (2 * i + 2) 0 < xs.getD (2 * i + 1) 0 then 2 * i + 2 else 2 * i + 1
/-- What heap's down leaves. -/
def downL : Nat → List Int → Nat → Nat → List Int
  | 0, xs, _, _ => xs
  | f + 1, xs, i, n =>
    if n ≤ 2 * i + 1 then xs else
    if xs.getD (pickJ xs i n) 0 < xs.getD i 0 then downL f (swapL xs i (pickJ xs i n)) (pickJ xs i n) n else xs
theorem downL_succ (f : Nat) (xs : List Int) (i n : Nat) : downL (f + 1) xs i n =
    if n ≤ 2 * i + 1 then xs else
    if xs.getD (pickJ xs i n) 0 < xs.getD i 0 then downL f (swapL xs i (pickJ xs i n)) (pickJ xs i n) n else xs := rfl
theorem downL_end {f : Nat} {xs : List Int} {i n : Nat} (h : n ≤ 2 * i + 1) : downL f xs i n = xs := by
  cases f with
  | zero => rfl
  | succ f => rw [downL_succ, if_pos h]
theorem downL_step {f k n j : Nat} {ys : List Int} (h1 : 2 * k + 1 < n) (hj : (j = 2 * k + 2 ∧ 2 * k + 2 < n ∧ ys.getD (2 * k + 2) 0 < ys.getD (2 * k + 1) 0) ∨ (j = 2 * k + 1 ∧ ¬ (2 * k + 2 < n ∧ ys.getD (2 * k + 2) 0 < ys.getD (2 * k + 1) 0))) :
    downL (f + 1) ys k n = if ys.getD j 0 < ys.getD k 0 then downL f (swapL ys k j) j n else ys := by
  have hp : pickJ ys k n = j := by
    unfold pickJ
    rcases hj with ⟨rfl, h2, h3⟩ | ⟨rfl, h2⟩
    · rw [if_pos ⟨h2, h3⟩]
    · rw [if_neg h2]
  rw [downL_succ, if_neg (by omega), hp]
theorem downL_length : ∀ (f : Nat) (xs : List Int) (i n : Nat), (downL f xs i n).length = xs.length
  | 0, _, _, _ => rfl
  | f + 1, xs, i, n => by
    rw [downL_succ]
    split
    · rfl
    · split
      · exact (downL_length f _ _ n).trans (swapL_length _ _ _)
      · rfl
theorem row_less_n {g cap : Nat} {xs : List Int} (i j : Int) (i' j' : Nat) (w : World) (R : RowB w g cap xs) (hi : i = i') (hj : j = j') (hi' : i' < xs.length) (hj' : j' < xs.length) (b : Bool) (hb : decide (xs.getD i' 0 < xs.getD j' 0) = b) :
    Calls Try.prog 116 #[.slice (some ⟨g, 0, none⟩) xs.length cap, .int .i64 i, .int .i64 j] w fun e w' => e = .returned (.bool b) ∧ ∃ m, w' = w.drewN m := by
  subst hi hj hb
  exact row_less (i' : Int) (j' : Int) w R (by omega) (by omega) (by omega) (by omega)
theorem row_swap_n {g cap : Nat} {xs : List Int} (i j : Int) (i' j' : Nat) (w : World) (R : RowB w g cap xs) (hi : i = i') (hj : j = j') (hi' : i' < xs.length) (hj' : j' < xs.length) (hne : ¬ i' = j') :
    Calls Try.prog 117 #[.slice (some ⟨g, 0, none⟩) xs.length cap, .int .i64 i, .int .i64 j] w fun e w' => e = .returned (.tuple #[]) ∧ RowB w' g cap (swapL xs i' j') ∧ OnlyBlk w w' g := by
  subst hi hj
  exact row_swap (i' : Int) (j' : Int) w R (by omega) (by omega) (by omega) (by omega) (by omega)
def DownPost (w : World) (g cap : Nat) (zs : List Int) (e : Ending) (w' : World) : Prop := (∃ b, e = .returned (.bool b)) ∧ OnlyBlk w w' g ∧ RowB w' g cap zs

set_option maxRecDepth 100000 in
set_option maxHeartbeats 2000000 in
theorem heap_down {p off g cap : Nat} {xs : List Int} (n : Nat) (w : World) (hc : w.cell? ⟨p, off, none⟩ = some (.slice (some ⟨g, 0, none⟩) xs.length cap)) (hpg : ¬ p = g) (R : RowB w g cap xs) (hn : n < xs.length) (hl : xs.length < 1099511627776) :
    Calls Try.prog 84 #[.iface 133 (.pointer (some ⟨p, off, none⟩)), .int .i64 0, .int .i64 n] w (DownPost w g cap (downL n xs 0 n)) := by
  obtain ⟨D, HD0⟩ : ∃ D, D = downL n xs 0 n := ⟨_, rfl⟩
  rw [← HD0]
  have HD := Lib.hid HD0
  clear HD0
  go_enter Try.func84, Try.ntmps84
  go_wp2
  go_loopw [7] (fun iv wr => ∃ (k f : Nat) (ys : List Int), iv = .int .i64 k ∧ k ≤ n ∧ ys.length = xs.length ∧ RowB wr g cap ys ∧ OnlyBlk w wr g ∧ n ≤ f + k ∧ D = downL f ys k n) (fun iv _ => n - (intOf iv).toNat)
  case atStart => exact ⟨0, n, xs, rfl, Nat.zero_le _, rfl, R, OnlyBlk.refl _ _, by omega, HD.out⟩
  case round =>
    obtain ⟨k, f, ys, rfl, hk, hys, Ry, ho, hf, hD⟩ := hrel
    have hcr : wr.cell? ⟨p, off, none⟩ = some (.slice (some ⟨g, 0, none⟩) ys.length cap) := by
      rw [ho.cell hpg, hys]; exact hc
    have hlen : n < ys.length := by omega
    have HY := Lib.hid hys
    have HDD := Lib.hid hD
    clear hc hys hD HD
    have hless : ∀ m, (method 272 133 (.pointer (some ⟨p, off, none⟩)) "Less").run Try.prog (wr.drewN m) = .ok (116, .slice (some ⟨g, 0, none⟩) ys.length cap) (wr.drewN m) := fun m => call_less (w := wr.drewN m) hcr
    have hless0 := hless 0
    have hswap : ∀ m, (method 272 133 (.pointer (some ⟨p, off, none⟩)) "Swap").run Try.prog (wr.drewN m) = .ok (117, .slice (some ⟨g, 0, none⟩) ys.length cap) (wr.drewN m) := fun m => call_swap (w := wr.drewN m) hcr
    simp only [World.drewN_zero] at hless0
    by_cases h1 : n ≤ 2 * k + 1
    · have h1' : (n : Int) ≤ 2 * (k : Int) + 1 := by omega
      go_wp2
      all_goals
        go_ret
        exact ⟨⟨_, rfl⟩, ho, by rw [HDD.out, downL_end h1]; exact Ry⟩
    · have h1' : ¬ (n : Int) ≤ 2 * (k : Int) + 1 := by omega
      obtain ⟨f, rfl⟩ : ∃ f', f = f' + 1 := ⟨f - 1, by omega⟩
      by_cases h2 : 2 * k + 2 < n
      case neg =>
        have h2' : ¬ 2 * (k : Int) + 1 + 1 < (n : Int) := by omega
        have HJ : (2 * k + 1 = 2 * k + 2 ∧ 2 * k + 2 < n ∧ ys.getD (2 * k + 2) 0 < ys.getD (2 * k + 1) 0) ∨ (2 * k + 1 = 2 * k + 1 ∧ ¬ (2 * k + 2 < n ∧ ys.getD (2 * k + 2) 0 < ys.getD (2 * k + 1) 0)) := .inr ⟨rfl, fun h => h2 h.1⟩
        have HJ := Lib.hid HJ
        have hstep := Lib.hid (downL_step (f := f) (j := 2 * k + 1) (ys := ys) (n := n) (k := k) (by omega) HJ.out)
        by_cases h4 : ys.getD (2 * k + 1) 0 < ys.getD k 0
        · have B2 := Lib.hid (show decide (ys.getD (2 * k + 1) 0 < ys.getD k 0) = true by simpa using h4)
          have H4 := Lib.hid h4
          clear h4
          go_wp2_with fail
          refine (row_less_n _ _ (2 * k + 1) k wr Ry (by omega) (by omega) (by omega) (by omega) _ B2.out).mono ?_
          rintro e w2 ⟨rfl, m2, rfl⟩
          go_wp2_with fail
          refine (row_swap_n _ _ k (2 * k + 1) (wr.drewN m2) (RowB.of_eq (w := wr) Ry rfl) (by omega) (by omega) (by omega) (by omega) (by omega)).mono ?_
          rintro e w3 ⟨rfl, hR2, ho2⟩
          go_wp2
          go_roundw
          case rel => exact ⟨2 * k + 1, f, _, by go_num, by omega, (swapL_length _ _ _).trans HY.out, hR2, (ho.trans (OnlyBlk.drewN _ _ _)).trans ho2, by omega, by rw [HDD.out, hstep.out, if_pos H4.out]⟩
          case measure => simp [intOf]; omega
        · have B2 := Lib.hid (show decide (ys.getD (2 * k + 1) 0 < ys.getD k 0) = false by simpa using h4)
          have H4 := Lib.hid h4
          clear h4
          go_wp2_with fail
          refine (row_less_n _ _ (2 * k + 1) k wr Ry (by omega) (by omega) (by omega) (by omega) _ B2.out).mono ?_
          rintro e w2 ⟨rfl, m2, rfl⟩
          go_wp2
          all_goals
            go_ret
            exact ⟨⟨_, rfl⟩, ho.trans (OnlyBlk.drewN _ _ _), by rw [HDD.out, hstep.out, if_neg (by have := H4.out; omega)]; exact Ry.of_eq rfl⟩
      have h2' : 2 * (k : Int) + 1 + 1 < (n : Int) := by omega
      by_cases h3 : ys.getD (2 * k + 2) 0 < ys.getD (2 * k + 1) 0
      case neg =>
        have B1 := Lib.hid (show decide (ys.getD (2 * k + 2) 0 < ys.getD (2 * k + 1) 0) = false by simpa using h3)
        have HJ : (2 * k + 1 = 2 * k + 2 ∧ 2 * k + 2 < n ∧ ys.getD (2 * k + 2) 0 < ys.getD (2 * k + 1) 0) ∨ (2 * k + 1 = 2 * k + 1 ∧ ¬ (2 * k + 2 < n ∧ ys.getD (2 * k + 2) 0 < ys.getD (2 * k + 1) 0)) := .inr ⟨rfl, fun h => h3 h.2⟩
        have HJ := Lib.hid HJ
        have hstep := Lib.hid (downL_step (f := f) (j := 2 * k + 1) (ys := ys) (n := n) (k := k) (by omega) HJ.out)
        by_cases h4 : ys.getD (2 * k + 1) 0 < ys.getD k 0
        · have B2 := Lib.hid (show decide (ys.getD (2 * k + 1) 0 < ys.getD k 0) = true by simpa using h4)
          have H4 := Lib.hid h4
          clear h4
          go_wp2_with fail
          refine (row_less_n _ _ (2 * k + 2) (2 * k + 1) _ Ry (by omega) (by omega) (by omega) (by omega) _ B1.out).mono ?_
          rintro e w1 ⟨rfl, m1, rfl⟩
          go_wp2_with fail
          refine (row_less_n _ _ (2 * k + 1) k (wr.drewN m1) (Ry.of_eq rfl) (by omega) (by omega) (by omega) (by omega) _ B2.out).mono ?_
          rintro e w2 ⟨rfl, m2, rfl⟩
          go_wp2_with fail
          refine (row_swap_n _ _ k (2 * k + 1) (wr.drewN (m1 + m2)) (RowB.of_eq (w := wr) Ry rfl) (by omega) (by omega) (by omega) (by omega) (by omega)).mono ?_
          rintro e w3 ⟨rfl, hR2, ho2⟩
          go_wp2
          go_roundw
          case rel => exact ⟨2 * k + 1, f, _, by go_num, by omega, (swapL_length _ _ _).trans HY.out, hR2, (ho.trans (OnlyBlk.drewN _ _ _)).trans ho2, by omega, by rw [HDD.out, hstep.out, if_pos H4.out]⟩
          case measure => simp [intOf]; omega
        · have B2 := Lib.hid (show decide (ys.getD (2 * k + 1) 0 < ys.getD k 0) = false by simpa using h4)
          have H4 := Lib.hid h4
          clear h4
          go_wp2_with fail
          refine (row_less_n _ _ (2 * k + 2) (2 * k + 1) _ Ry (by omega) (by omega) (by omega) (by omega) _ B1.out).mono ?_
          rintro e w1 ⟨rfl, m1, rfl⟩
          go_wp2_with fail
          refine (row_less_n _ _ (2 * k + 1) k (wr.drewN m1) (Ry.of_eq rfl) (by omega) (by omega) (by omega) (by omega) _ B2.out).mono ?_
          rintro e w2 ⟨rfl, m2, rfl⟩
          go_wp2
          all_goals
            go_ret
            exact ⟨⟨_, rfl⟩, ho.trans (OnlyBlk.drewN _ _ _), by rw [HDD.out, hstep.out, if_neg (by have := H4.out; omega)]; exact Ry.of_eq rfl⟩
      have B1 := Lib.hid (show decide (ys.getD (2 * k + 2) 0 < ys.getD (2 * k + 1) 0) = true by simpa using h3)
      have HJ : (2 * k + 2 = 2 * k + 2 ∧ 2 * k + 2 < n ∧ ys.getD (2 * k + 2) 0 < ys.getD (2 * k + 1) 0) ∨ (2 * k + 2 = 2 * k + 1 ∧ ¬ (2 * k + 2 < n ∧ ys.getD (2 * k + 2) 0 < ys.getD (2 * k + 1) 0)) := .inl ⟨rfl, h2, h3⟩
      have HJ := Lib.hid HJ
      have hstep := Lib.hid (downL_step (f := f) (j := 2 * k + 2) (ys := ys) (n := n) (k := k) (by omega) HJ.out)
      by_cases h4 : ys.getD (2 * k + 2) 0 < ys.getD k 0
      · have B2 := Lib.hid (show decide (ys.getD (2 * k + 2) 0 < ys.getD k 0) = true by simpa using h4)
        have H4 := Lib.hid h4
        clear h4
        go_wp2_with fail
        refine (row_less_n _ _ (2 * k + 2) (2 * k + 1) _ Ry (by omega) (by omega) (by omega) (by omega) _ B1.out).mono ?_
        rintro e w1 ⟨rfl, m1, rfl⟩
        go_wp2_with fail
        refine (row_less_n _ _ (2 * k + 2) k (wr.drewN m1) (Ry.of_eq rfl) (by omega) (by omega) (by omega) (by omega) _ B2.out).mono ?_
        rintro e w2 ⟨rfl, m2, rfl⟩
        go_wp2_with fail
        refine (row_swap_n _ _ k (2 * k + 2) (wr.drewN (m1 + m2)) (RowB.of_eq (w := wr) Ry rfl) (by omega) (by omega) (by omega) (by omega) (by omega)).mono ?_
        rintro e w3 ⟨rfl, hR2, ho2⟩
        go_wp2
        go_roundw
        case rel => exact ⟨2 * k + 2, f, _, by go_num, by omega, (swapL_length _ _ _).trans HY.out, hR2, (ho.trans (OnlyBlk.drewN _ _ _)).trans ho2, by omega, by rw [HDD.out, hstep.out, if_pos H4.out]⟩
        case measure => simp [intOf]; omega
      · have B2 := Lib.hid (show decide (ys.getD (2 * k + 2) 0 < ys.getD k 0) = false by simpa using h4)
        have H4 := Lib.hid h4
        clear h4
        go_wp2_with fail
        refine (row_less_n _ _ (2 * k + 2) (2 * k + 1) _ Ry (by omega) (by omega) (by omega) (by omega) _ B1.out).mono ?_
        rintro e w1 ⟨rfl, m1, rfl⟩
        go_wp2_with fail
        refine (row_less_n _ _ (2 * k + 2) k (wr.drewN m1) (Ry.of_eq rfl) (by omega) (by omega) (by omega) (by omega) _ B2.out).mono ?_
        rintro e w2 ⟨rfl, m2, rfl⟩
        go_wp2
        all_goals
          go_ret
          exact ⟨⟨_, rfl⟩, ho.trans (OnlyBlk.drewN _ _ _), by rw [HDD.out, hstep.out, if_neg (by have := H4.out; omega)]; exact Ry.of_eq rfl⟩
end Go.Proofs.Ytlpklloagaccoaa
