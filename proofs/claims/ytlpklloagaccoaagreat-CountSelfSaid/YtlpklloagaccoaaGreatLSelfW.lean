/- The walk of CountSelf. No condition. -/
import Derived.Test.YtlpklloagaccoaaGreatLSelf
import Derived.Outline
namespace Go.Proofs.YtlpklloagaccoaaGreat
open Go.RowKit
set_option linter.unusedVariables false

set_option maxRecDepth 100000 in
theorem self_out (n : Int) (w : World) (h : n < 1 ∨ 20 < n) :
    Calls Tryz.prog 17 #[.int .i64 n] w fun e w' => e = .returned (.bool true) ∧ Below w.heap.size w w' := by
  have HA := Lib.hid (alive12 w)
  have hn : n < 1 ∨ (¬ n < 1 ∧ 20 < n) := by omega
  clear h
  rcases hn with h0 | ⟨h0, h3⟩
  all_goals
    go_enter Tryz.func17, Tryz.ntmps17
    go_wp2_with fail
    go_at_call 65
    refine HA.out.mono ?_
    rintro e w1 ⟨rfl, hb⟩
    have HB := Lib.hid hb
    clear hb
    go_wp2_with fail
    go_ret
    exact ⟨rfl, HB.out⟩
set_option maxRecDepth 100000 in
set_option maxHeartbeats 4000000 in
theorem self_in (n : Nat) (w : World) (hn1 : 1 ≤ n) (hn : n ≤ 20) :
    Calls Tryz.prog 17 #[.int .i64 (n : Nat)] w fun e w' => e = .returned (.bool true) ∧ Below w.heap.size w w' := by
  have HA := Lib.hid (alive12 w)
  have HN := Lib.hid (fun (o : Own) (w1 : World) (ho : Owned o w1) => show Calls Tryz.prog 27 #[.int .i64 20, .int .i64 0, .int .i64 1000] w1 (EngNew o w1 1 20 1000) from eng_new 1 20 1000 w1 ho (by omega) (by omega) (by omega) (by omega))
  have HL0 := Lib.hid (And.intro hn1 hn)
  have h0 : ¬ (n : Int) < 1 := by omega
  have h1 : ¬ 20 < (n : Int) := by omega
  clear hn1 hn
  go_enter Tryz.func17, Tryz.ntmps17
  go_wp2_with fail
  go_at_call 65
  refine HA.out.mono ?_
  rintro e w1 ⟨rfl, hb⟩
  have HF1 := Lib.hid (LF.of_below hb)
  clear hb
  go_wp2_with fail
  go_at_call 27
  refine (HN.out _ _ HF1.out.fresh).mono ?_
  rintro e w2 ⟨p, o2, rfl, F2, E2⟩
  have HF2 := Lib.hid (HF1.out.fr F2 (by omega))
  have HE2 := Lib.hid E2
  clear F2 E2
  go_wp2_with fail
  go_at_call 66
  refine (sf_make (n : Int) rfl HL0.out.2 w2 _ (by repeat (first | exact Fr.refl HF2.out.fresh | refine Fr.drew ?_ | refine Fr.alloc ?_ _)) HE2.out).mono ?_
  rintro e w3 ⟨a, L1, o3, rfl, F3, E3, a3, k1, k2, k3⟩
  have HF3 := Lib.hid (HF2.out.fr F3 (by omega))
  have HE3 := Lib.hid E3
  have HK3 := Lib.hid (And.intro a3 (And.intro k1 (And.intro k2 k3)))
  clear F3 E3 a3 k1 k2 k3
  go_wp2_with fail
  go_at_call 66
  refine (sf_box w3 _ (by repeat (first | exact Fr.refl HF3.out.fresh | refine Fr.drew ?_ | refine Fr.alloc ?_ _)) HE3.out HK3.out.1 HK3.out.2.1 HK3.out.2.2.1 HK3.out.2.2.2).mono ?_
  rintro e w4 ⟨b, o4, rfl, F4, A4⟩
  have HF4 := Lib.hid (HF3.out.fr F4 (by omega))
  have HA4 := Lib.hid A4
  clear F4 A4
  generalize ((a : Nat) : Int) = h at *
  go_wp2_with (go_at_call 67; refine (num12 _ _).mono ?_; rintro e w' ⟨rfl, rfl⟩)
  go_loopw [9] (fun iv wr => ∃ (i : Nat) (o' : Own), i ≤ n ∧ iv = .int .i64 i ∧ LF w o' wr ∧ SfUAt o' wr p h b n i) (fun iv _ => n - (intOf iv).toNat)
  case atStart => exact ⟨0, o4, by omega, rfl, HF4.out, HA4.out⟩
  case round =>
    obtain ⟨i, oi, hi, rfl, Fi, Ai⟩ := hrel
    have HFi := Lib.hid Fi
    have HAi := Lib.hid Ai
    clear Fi Ai
    by_cases hin : i < n
    · have hin' : (i : Int) < (n : Int) := by omega
      have HI := Lib.hid hin
      clear hi hin
      have HS := Lib.hid (fun (w5 : World) (F : Fr 0 0 oi oi wr w5) => sf_set wr w5 F HAi.out HI.out HL0.out.2)
      go_wp2_with fail
      go_at_call 68
      refine (HS.out _ (by repeat (first | exact Fr.refl HFi.out.fresh | refine Fr.drew ?_ | refine Fr.alloc ?_ _))).mono ?_
      rintro e w5 ⟨o5, rfl, F5, A5⟩
      have HF5 := Lib.hid (HFi.out.fr F5 (by omega))
      have HA5 := Lib.hid A5
      clear F5 A5
      go_wp2_with fail
      exact ⟨⟨i + 1, o5, by have := HI.out; omega, by go_num, HF5.out, HA5.out⟩, by have := HI.out; simp [intOf]; omega⟩
    · have hin' : ¬ (i : Int) < (n : Int) := by omega
      obtain rfl : i = n := by omega
      clear hi hin
      go_wp2_with fail
      go_at_call 68
      refine (sf_last wr _ (by repeat (first | exact Fr.refl HFi.out.fresh | refine Fr.drew ?_ | refine Fr.alloc ?_ _)) HAi.out HL0.out.1).mono ?_
      rintro e w5 ⟨o5, rfl, F5, A5⟩
      have HF5 := Lib.hid (HFi.out.fr F5 (by omega))
      have HA5 := Lib.hid A5
      clear F5 A5
      go_wp2_with fail
      go_at_call 39
      refine (sf_counth w5 _ (by repeat (first | exact Fr.refl HF5.out.fresh | refine Fr.drew ?_ | refine Fr.alloc ?_ _)) HA5.out).mono ?_
      rintro e w6 ⟨s6, rfl, F6⟩
      have HF6 := Lib.hid F6
      clear F6
      go_wp2_with fail
      go_at_call 39
      refine (sf_countb w5 _ (by repeat (first | exact HF6.out | refine Fr.drew ?_ | refine Fr.alloc ?_ _)) HA5.out).mono ?_
      rintro e w7 ⟨s7, rfl, F7⟩
      have HF7 := Lib.hid F7
      clear F7
      go_wp2_with fail
      go_at_call 69
      refine (sf_zeros w5 _ (by repeat (first | exact HF7.out | refine Fr.drew ?_ | refine Fr.alloc ?_ _)) HA5.out HL0.out.1).mono ?_
      rintro e w8 ⟨A8, cap8, rfl, F8⟩
      have HF8 := Lib.hid (HF5.out.fr F8 (by omega))
      have HA8 := Lib.hid (show SfVAt o5 w8 p h b i from let ⟨S, E, V⟩ := HA5.out; ⟨S, E.keep F8 (.inr (by omega)), V⟩)
      clear F8
      have hcase : i = 1 ∨ ¬ i = 1 := by omega
      rcases hcase with h1' | h1'
      · have hq : ((i : Int) == 1) = true := by simp; omega
        rw [if_pos h1']
        have hbi : ((i : Nat) : Int) - 1 = 0 := by omega
        have hz1 : (i : Int) = 1 := by omega
        clear h1'
        go_wp2_with fail
        go_at_call 81
        refine (sf_free w8 _ (by repeat (first | exact Fr.refl HF8.out.fresh | refine Fr.drew ?_ | refine Fr.alloc ?_ _)) HA8.out).mono ?_
        rintro e w9 ⟨o9, rfl, F9, A9⟩
        have HF9 := Lib.hid (HF8.out.fr F9 (by omega))
        have HA9 := Lib.hid A9
        clear F9 A9
        go_wp2_with fail
        go_at_call 39
        refine (sf_count0 w9 _ (by repeat (first | exact Fr.refl HF9.out.fresh | refine Fr.drew ?_ | refine Fr.alloc ?_ _)) HA9.out).mono ?_
        rintro e w10 ⟨s10, rfl, F10⟩
        have HF10 := Lib.hid F10
        clear F10
        go_wp2_with fail
        go_at_call 74
        refine (sf_all w9 _ (by repeat (first | exact HF10.out | refine Fr.drew ?_ | refine Fr.alloc ?_ _)) HA9.out).mono ?_
        rintro e w11 ⟨g11, cap11, rfl, hg11, hc11, F11⟩
        have HF11 := Lib.hid (HF9.out.fr F11 (by omega))
        clear F11
        go_wp2_with (go_at_call 67; refine (num12 _ _).mono ?_; rintro e w' ⟨rfl, rfl⟩)
        go_ret
        exact ⟨rfl, HF11.out.tob⟩
      · have hq : ((i : Int) == 1) = false := by simp; omega
        rw [if_neg h1']
        have hz1 : ¬ (i : Int) = 1 := by omega
        clear h1'
        go_wp2_with fail
        go_at_call 81
        refine (sf_free w8 _ (by repeat (first | exact Fr.refl HF8.out.fresh | refine Fr.drew ?_ | refine Fr.alloc ?_ _)) HA8.out).mono ?_
        rintro e w9 ⟨o9, rfl, F9, A9⟩
        have HF9 := Lib.hid (HF8.out.fr F9 (by omega))
        have HA9 := Lib.hid A9
        clear F9 A9
        go_wp2_with fail
        go_at_call 39
        refine (sf_count0 w9 _ (by repeat (first | exact Fr.refl HF9.out.fresh | refine Fr.drew ?_ | refine Fr.alloc ?_ _)) HA9.out).mono ?_
        rintro e w10 ⟨s10, rfl, F10⟩
        have HF10 := Lib.hid F10
        clear F10
        go_wp2_with fail
        go_at_call 74
        refine (sf_all w9 _ (by repeat (first | exact HF10.out | refine Fr.drew ?_ | refine Fr.alloc ?_ _)) HA9.out).mono ?_
        rintro e w11 ⟨g11, cap11, rfl, hg11, hc11, F11⟩
        have HF11 := Lib.hid (HF9.out.fr F11 (by omega))
        clear F11
        go_wp2_with (go_at_call 67; refine (num12 _ _).mono ?_; rintro e w' ⟨rfl, rfl⟩)
        go_ret
        exact ⟨rfl, HF11.out.tob⟩
theorem self_walk (n : Int) (w : World) : Calls Tryz.prog 17 #[.int .i64 n] w fun e w' => e = .returned (.bool true) ∧ Below w.heap.size w w' := by
  by_cases h : n < 1 ∨ 20 < n
  · exact self_out n w h
  · obtain ⟨k, rfl⟩ := Int.eq_ofNat_of_zero_le (show 0 ≤ n by omega)
    exact self_in k w (by omega) (by omega)
end Go.Proofs.YtlpklloagaccoaaGreat
