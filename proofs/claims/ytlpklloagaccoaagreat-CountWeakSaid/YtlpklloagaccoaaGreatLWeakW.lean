/- The walk of CountWeak. No condition. -/
import Derived.Test.YtlpklloagaccoaaGreatLWeak
import Derived.Outline
namespace Go.Proofs.YtlpklloagaccoaaGreat
open Go.RowKit
set_option linter.unusedVariables false

theorem neqV (k x : Int) (w : World) : (binOp .neq 30 (.agg #[.int .i64 k, .int .i64 x]) (.agg #[.int .i64 k, .int .i64 x])).run Tryz.prog w = .ok (.bool false) w := by
  have hp : Tryz.prog.stoodInHeld 30 = false := by kernel_rfl
  simp [go_sem, part, hp]
set_option maxRecDepth 100000 in
theorem weak_out (n : Int) (b : Bool) (w : World) (h : n < 1 ∨ 20 < n) :
    Calls Tryz.prog 16 #[.int .i64 n, .bool b] w fun e w' => e = .returned (.bool true) ∧ Below w.heap.size w w' := by
  have HA := Lib.hid (alive12 w)
  have hn : n < 1 ∨ (¬ n < 1 ∧ 20 < n) := by omega
  clear h
  rcases hn with h0 | ⟨h0, h3⟩
  all_goals
    go_enter Tryz.func16, Tryz.ntmps16
    go_wp2_with fail
    go_at_call 65
    refine HA.out.mono ?_
    rintro e w1 ⟨rfl, hb⟩
    have HB := Lib.hid hb
    clear hb
    go_wp2_with fail
    go_ret
    exact ⟨rfl, HB.out⟩
set_option maxRecDepth 100000 in
set_option maxHeartbeats 4000000 in
theorem weak_in (n : Nat) (b : Bool) (w : World) (hn1 : 1 ≤ n) (hn : n ≤ 20) :
    Calls Tryz.prog 16 #[.int .i64 (n : Nat), .bool b] w fun e w' => e = .returned (.bool true) ∧ Below w.heap.size w w' := by
  have HA := Lib.hid (alive12 w)
  have HN := Lib.hid (fun (o : Own) (w1 : World) (ho : Owned o w1) => show Calls Tryz.prog 27 #[.int .i64 20, .int .i64 0, .int .i64 100] w1 (EngNew o w1 1 20 100) from eng_new 1 20 100 w1 ho (by omega) (by omega) (by omega) (by omega))
  have HL0 := Lib.hid (And.intro hn1 hn)
  have h0 : ¬ (n : Int) < 1 := by omega
  have h1 : ¬ 20 < (n : Int) := by omega
  clear hn1 hn
  go_enter Tryz.func16, Tryz.ntmps16
  go_wp2_with fail
  go_at_call 65
  refine HA.out.mono ?_
  rintro e w1 ⟨rfl, hb⟩
  have HF1 := Lib.hid (LF.of_below hb)
  clear hb
  go_wp2_with fail
  go_at_call 27
  refine (HN.out _ _ HF1.out.fresh).mono ?_
  rintro e w2 ⟨p, o2, rfl, F2, E2⟩
  have HF2 := Lib.hid (HF1.out.fr F2 (by omega))
  have HE2 := Lib.hid E2
  clear F2 E2
  go_wp2_with fail
  go_at_call 66
  refine (wk_first w2 _ (by repeat (first | exact Fr.refl HF2.out.fresh | refine Fr.drew ?_ | refine Fr.alloc ?_ _)) HE2.out).mono ?_
  rintro e w3 ⟨x, o3, rfl, F3, A3⟩
  have HF3 := Lib.hid (HF2.out.fr F3 (by omega))
  have HA3 := Lib.hid A3
  clear F3 A3
  go_wp2_with (go_at_call 67; refine (num12 _ _).mono ?_; rintro e w' ⟨rfl, rfl⟩)
  go_loopw [9, 10] (fun vv iv wr => ∃ (i : Nat) (o' : Own) (ws : List Int), i ≤ n ∧ ws.length = i ∧ iv = .int .i64 i ∧ LF w o' wr ∧ WkUAt o' wr p x ws ∧ LRow o' wr 40 vv ws) (fun _ iv _ => n - (intOf iv).toNat)
  case atStart => exact ⟨0, o3, [], by omega, rfl, rfl, HF3.out, HA3.out, LRow.nil _ _ 40⟩
  case round =>
    obtain ⟨i, oi, ws, hi, hl, rfl, Fi, Ai, Ri⟩ := hrel
    by_cases hin : i < n
    · have hin' : (i : Int) < (n : Int) := by omega
      have HFi := Lib.hid Fi
      have HRi := Lib.hid Ri
      have HL := Lib.hid (And.intro hl hin)
      have HM := Lib.hid (fun (w5 : World) (F : Fr 0 0 oi oi wr w5) => wk_make wr w5 F Ai (by have := h1; omega))
      clear Fi Ai Ri hl hi hin
      go_wp2_with fail
      go_at_call 66
      refine (HM.out _ (by repeat (first | exact Fr.refl HFi.out.fresh | refine Fr.drew ?_ | refine Fr.alloc ?_ _))).mono ?_
      rintro e w5 ⟨a, o5, rfl, F5, A5⟩
      have HF5 := Lib.hid (HFi.out.fr F5 (by omega))
      have HA5 := Lib.hid A5
      have HR5 := Lib.hid (HRi.out.keep F5 (.inr (by omega)))
      clear F5 A5
      go_wp2_with (go_at_call 67; refine (num12 _ _).mono ?_; rintro e w' ⟨rfl, rfl⟩)
      go_at_call 68
      refine (wk_set w5 _ (by repeat (first | exact Fr.refl HF5.out.fresh | refine Fr.drew ?_ | refine Fr.alloc ?_ _)) HA5.out).mono ?_
      rintro e w6 ⟨o6, rfl, F6, A6⟩
      have HF6 := Lib.hid (HF5.out.fr F6 (by omega))
      have HA6 := Lib.hid A6
      have HR6 := Lib.hid (HR5.out.keep F6 (.inr (by omega)))
      clear F6 A6
      go_wp2_with (first
        | (go_at_call 67; refine (num12 _ _).mono ?_; rintro e w' ⟨rfl, rfl⟩)
        | (at_builtin; refine wpList_append_row _ rfl _ _ _ rfl Tryz.underlying38 (own := o6) (by first | exact HF6.out.fresh | exact (HF6.out.alloc _).fresh) 40 rfl (HR6.out.keep (lo := 0) (hi := 0) ((Fr.refl HF6.out.fresh).alloc _) (.inr (by omega))) rfl (RdS.one _ .i64 _ ((a : Nat) : Int) (by simp)) (by have := HL.out; have := h1; omega) ?_; intro v7 w7 o7 F7 R7; have HF7 := Lib.hid ((HF6.out.alloc _).fr F7 (by omega)); have HR7 := Lib.hid R7; have HA7 := Lib.hid ((HA6.out.keep ((Fr.refl (lo := 0) (hi := 0) HF6.out.fresh).alloc _) (.inr (by omega))).keep F7 (.inl (by omega))); clear F7 R7))
      exact ⟨⟨i + 1, o7, ws ++ [((a : Nat) : Int)], by have := HL.out; omega, by rw [List.length_append, HL.out.1]; rfl, by go_num, HF7.out, HA7.out, HR7.out⟩, by have := HL.out; simp [intOf]; omega⟩
    · have hin' : ¬ (i : Int) < (n : Int) := by omega
      obtain rfl : i = n := by omega
      obtain ⟨gm, capm, hvm, _, _, _⟩ := Ri.set Fi.fresh (i := 0) (by have := HL0.out; omega)
      subst hvm
      have HFi := Lib.hid Fi
      have HRi := Lib.hid Ri
      have HAi := Lib.hid Ai
      clear Fi Ai Ri hi hin
      rw [hl] at HRi ⊢
      have HL := Lib.hid hl
      clear hl
      go_wp2_with fail
      go_at_call 39
      refine (wk_count wr _ (by repeat (first | exact Fr.refl HFi.out.fresh | refine Fr.drew ?_ | refine Fr.alloc ?_ _)) HAi.out).mono ?_
      rintro e w5 ⟨s5, rfl, F5⟩
      have HF5 := Lib.hid (HFi.out.fr F5 (by omega))
      have HA5 := Lib.hid (HAi.out.keep F5 (.inr (by omega)))
      have HR5 := Lib.hid (HRi.out.keep F5 (.inr (by omega)))
      clear F5
      rcases b with _ | _
      · have HG5 := Lib.hid (show WkGAt oi w5 p x ws false from let ⟨S, E, U⟩ := HA5.out; ⟨S, E, U.stay⟩)
        clear HA5 HAi
        go_wp2_with (go_at_call 67; refine (num12 _ _).mono ?_; rintro e w' ⟨rfl, rfl⟩)
        go_loopw [15] (fun iv wz => ∃ (z : Nat), z ≤ i ∧ iv = .int .i64 z ∧ Fr 0 0 oi oi w5 wz) (fun iv _ => i - (intOf iv).toNat)
        case atStart => exact ⟨0, by omega, rfl, Fr.refl HF5.out.fresh⟩
        case round =>
          obtain ⟨z, hz, rfl, Fz⟩ := hrel
          have HFz := Lib.hid Fz
          by_cases hzi : z < i
          · have hzi' : (z : Int) < (i : Int) := by omega
            have Hz := Lib.hid hzi
            have hrd := (HR5.out.keep Fz (.inr (by omega))).cell (j := z) (by rw [HL.out]; exact hzi)
            clear Fz hz hzi
            go_wp2_with fail
            go_at_call 30
            refine (wk_cell _ w5 _ (by repeat (first | exact HFz.out | refine Fr.drew ?_ | refine Fr.alloc ?_ _)) HG5.out (by rw [HL.out]; exact Hz.out) rfl).mono ?_
            rintro e w6 ⟨rfl, F6⟩
            have HF6 := Lib.hid F6
            clear F6
            have hq := neqV 3 x
            go_wp2_with fail
            exact ⟨⟨z + 1, by have := Hz.out; omega, by go_num, (HF6.out.alloc _)⟩, by have := Hz.out; simp [intOf]; omega⟩
          · have hzi' : ¬ (z : Int) < (i : Int) := by omega
            obtain rfl : z = i := by omega
            clear Fz hz hzi
            go_wp2_with fail
            go_ret
            exact ⟨rfl, (HF5.out.fr HFz.out (by omega)).tob⟩
      · go_wp2_with fail
        go_at_call 81
        refine (wk_free w5 _ (by repeat (first | exact Fr.refl HF5.out.fresh | refine Fr.drew ?_ | refine Fr.alloc ?_ _)) HA5.out).mono ?_
        rintro e w6 ⟨o6, rfl, F6, G6⟩
        have HF6 := Lib.hid (HF5.out.fr F6 (by omega))
        have HG6 := Lib.hid G6
        have HR6 := Lib.hid (HR5.out.keep F6 (.inr (by omega)))
        clear F6 G6 HA5 HAi HR5
        go_wp2_with (go_at_call 67; refine (num12 _ _).mono ?_; rintro e w' ⟨rfl, rfl⟩)
        go_loopw [15] (fun iv wz => ∃ (z : Nat), z ≤ i ∧ iv = .int .i64 z ∧ Fr 0 0 o6 o6 w6 wz) (fun iv _ => i - (intOf iv).toNat)
        case atStart => exact ⟨0, by omega, rfl, Fr.refl HF6.out.fresh⟩
        case round =>
          obtain ⟨z, hz, rfl, Fz⟩ := hrel
          have HFz := Lib.hid Fz
          by_cases hzi : z < i
          · have hzi' : (z : Int) < (i : Int) := by omega
            have Hz := Lib.hid hzi
            have hrd := (HR6.out.keep Fz (.inr (by omega))).cell (j := z) (by rw [HL.out]; exact hzi)
            clear Fz hz hzi
            go_wp2_with fail
            go_at_call 30
            refine (wk_cell _ w6 _ (by repeat (first | exact HFz.out | refine Fr.drew ?_ | refine Fr.alloc ?_ _)) HG6.out (by rw [HL.out]; exact Hz.out) rfl).mono ?_
            rintro e w7 ⟨rfl, F7⟩
            have HF7 := Lib.hid F7
            clear F7
            go_wp2_with fail
            exact ⟨⟨z + 1, by have := Hz.out; omega, by go_num, (HF7.out.alloc _)⟩, by have := Hz.out; simp [intOf]; omega⟩
          · have hzi' : ¬ (z : Int) < (i : Int) := by omega
            obtain rfl : z = i := by omega
            clear Fz hz hzi
            go_wp2_with fail
            go_ret
            exact ⟨rfl, (HF6.out.fr HFz.out (by omega)).tob⟩
theorem weak_walk (n : Int) (b : Bool) (w : World) : Calls Tryz.prog 16 #[.int .i64 n, .bool b] w fun e w' => e = .returned (.bool true) ∧ Below w.heap.size w w' := by
  by_cases h : n < 1 ∨ 20 < n
  · exact weak_out n b w h
  · obtain ⟨k, rfl⟩ := Int.eq_ofNat_of_zero_le (show 0 ≤ n by omega)
    exact weak_in k b w (by omega) (by omega)
end Go.Proofs.YtlpklloagaccoaaGreat
