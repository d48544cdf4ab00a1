/- The walk of DrainTells. No condition. -/
import Derived.Test.YtlpklloagaccoaaGreatLaw13
import Derived.Test.YtlpklloagaccoaaGreatLTells
import Derived.StillTailTactics
namespace Go.Proofs.YtlpklloagaccoaaGreat
open Go.RowKit
set_option linter.unusedVariables false

theorem hL_get2 {o : Own} {w : World} {r c n cap : Nat} {A : Option Addr} (h : LRow o w r (.slice A n cap) (hL c n)) {i : Nat} (hi : i < n) : ∃ g, A = some ⟨g, 0, none⟩ ∧ g < w.heap.size ∧ w.cell? ⟨g, i, none⟩ = some (.int .i64 (hI c i)) := by
  obtain ⟨g, h1, h2, h3, _, _⟩ := h.at_ (i := i) (by rw [hL_len]; exact hi)
  rw [hL_getD hi] at h3
  exact ⟨g, h1, h2, h3⟩
set_option maxRecDepth 100000 in
theorem dtells_out (n : Int) (held : Bool) (w : World) (h : n < 1 ∨ 20 < n) :
    Calls Tryz.prog 21 #[.int .i64 n, .bool held] w fun e w' => e = .returned (.bool true) ∧ Below w.heap.size w w' := by
  have HA := Lib.hid (alive13 w)
  have hn : n < 1 ∨ (¬ n < 1 ∧ 20 < n) := by omega
  clear h
  rcases hn with h0 | ⟨h0, h3⟩
  all_goals
    go_enter Tryz.func21, Tryz.ntmps21
    go_wp2_with fail
    go_at_call 82
    refine HA.out.mono ?_
    rintro e w1 ⟨rfl, hb⟩
    have HB := Lib.hid hb
    clear hb
    go_wp2_with fail
    go_ret
    exact ⟨rfl, HB.out⟩
set_option maxRecDepth 100000 in
set_option maxHeartbeats 4000000 in
theorem dtells_in (n : Nat) (held : Bool) (w : World) (hn1 : 1 ≤ n) (hn : n ≤ 20) :
    Calls Tryz.prog 21 #[.int .i64 (n : Nat), .bool held] w fun e w' => e = .returned (.bool true) ∧ Below w.heap.size w w' := by
  have HA := Lib.hid (alive13 w)
  have HN := Lib.hid (fun (o : Own) (w1 : World) (ho : Owned o w1) => show Calls Tryz.prog 27 #[.int .i64 20, .int .i64 0, .int .i64 1000] w1 (EngNew o w1 1 20 1000) from eng_new 1 20 1000 w1 ho (by omega) (by omega) (by omega) (by omega))
  have h0 : ¬ (n : Int) < 1 := by omega
  have h1 : ¬ 20 < (n : Int) := by omega
  have HL0 := Lib.hid (And.intro hn1 hn)
  clear hn1 hn
  go_enter Tryz.func21, Tryz.ntmps21
  go_wp2_with fail
  go_at_call 82
  refine HA.out.mono ?_
  rintro e w1 ⟨rfl, hb⟩
  have HF1 := Lib.hid (LF.of_below hb)
  clear hb
  go_wp2_with fail
  go_at_call 27
  refine (HN.out _ _ HF1.out.fresh).mono ?_
  rintro e w2 ⟨p, o2, rfl, F2, E2⟩
  have HF2 := Lib.hid (HF1.out.fr F2 (by omega))
  have HA2 := Lib.hid (rw_first (N := 20) (lim := 1000) E2)
  clear F2 E2
  go_wp2_with fail
  go_loopw [7, 8] (fun vv iv wr => ∃ (i : Nat) (o' : Own), i ≤ n ∧ iv = .int .i64 i ∧ LF w o' wr ∧ RwAt o' wr p 20 1000 i ∧ LRow o' wr 70 vv (hL 1 i)) (fun _ iv _ => n - (intOf iv).toNat)
  case atStart => exact ⟨0, o2, by omega, rfl, HF2.out, HA2.out, LRow.nil _ _ 70⟩
  case round =>
    obtain ⟨i, oi, hi, rfl, Fi, Ai, Ri⟩ := hrel
    have HFi := Lib.hid Fi
    have HRi := Lib.hid Ri
    have HAi := Lib.hid Ai
    clear Fi Ai Ri
    by_cases hin : i < n
    · have hin' : (i : Int) < (n : Int) := by omega
      have HI := Lib.hid (And.intro hin (show i < 20 by have := HL0.out; omega))
      clear hi hin
      have HM := Lib.hid (fun (w5 : World) (F : Fr 0 0 oi oi wr w5) => rw_make wr w5 F HAi.out (by have := HI.out; omega))
      rcases (show i = 0 ∨ ∃ j, i = j + 1 from by cases i with | zero => exact .inl rfl | succ j => exact .inr ⟨j, rfl⟩) with h00 | ⟨j, hj⟩
      · subst h00
        go_wp2_with fail
        go_at_call 66
        refine (HM.out _ (by repeat (first | exact Fr.refl HFi.out.fresh | refine Fr.drew ?_ | refine Fr.alloc ?_ _))).mono ?_
        rintro e w5 ⟨o5, rfl, F5, A5⟩
        have HF5 := Lib.hid (HFi.out.fr F5 (by omega))
        have HA5 := Lib.hid A5.skip
        have HR5 := Lib.hid (HRi.out.keep F5 (.inr (by omega)))
        clear F5 A5
        obtain ⟨a, ha⟩ : ∃ a, a = hI 1 0 := ⟨_, rfl⟩
        have HAe := Lib.hid ha
        rw [← ha]
        clear ha
        go_wp2_with (at_builtin; refine wpList_append_row _ rfl _ _ _ rfl Tryz.underlying38 (own := o5) (by first | exact HF5.out.fresh | exact (HF5.out.alloc _).fresh) 70 rfl (HR5.out.keep (lo := 0) (hi := 0) ((Fr.refl HF5.out.fresh).alloc _) (.inr (by omega))) rfl (RdS.one _ .i64 _ a (by simp)) (by simp [hL]) ?_; intro v9 w9 o9 F9 R9; have HF9 := Lib.hid ((HF5.out.alloc _).fr F9 (by omega)); rw [HAe.out, ← hL_succ] at R9; have HR9 := Lib.hid R9; have HA9 := Lib.hid ((HA5.out.keep ((Fr.refl (lo := 0) (hi := 0) HF5.out.fresh).alloc _) (.inr (by omega))).keep F9 (.inl (by omega))); clear F9 R9)
        exact ⟨⟨1, o9, by have := HI.out; omega, by go_num, HF9.out, HA9.out, HR9.out⟩, by have := HI.out; simp [intOf]; omega⟩
      · subst hj
        have hj60 : (j : Int) + 1 < 60 := by have := HI.out; omega
        go_wp2_with fail
        go_at_call 66
        refine (HM.out _ (by repeat (first | exact Fr.refl HFi.out.fresh | refine Fr.drew ?_ | refine Fr.alloc ?_ _))).mono ?_
        rintro e w5 ⟨o5, rfl, F5, A5⟩
        have HF5 := Lib.hid (HFi.out.fr F5 (by omega))
        have HA5 := Lib.hid A5
        have HR5 := Lib.hid (HRi.out.keep F5 (.inr (by omega)))
        clear F5 A5
        obtain ⟨a, ha⟩ : ∃ a, a = hI 1 (j + 1) := ⟨_, rfl⟩
        have HAe := Lib.hid ha
        rw [← ha]
        clear ha
        go_wp2_with (at_builtin; refine wpList_append_row _ rfl _ _ _ rfl Tryz.underlying38 (own := o5) (by first | exact HF5.out.fresh | exact (HF5.out.alloc _).fresh) 70 rfl (HR5.out.keep (lo := 0) (hi := 0) ((Fr.refl HF5.out.fresh).alloc _) (.inr (by omega))) rfl (RdS.one _ .i64 _ a (by simp)) (by rw [hL_len]; omega) ?_; intro v9 w9 o9 F9 R9; have HF9 := Lib.hid ((HF5.out.alloc _).fr F9 (by omega)); rw [HAe.out, ← hL_succ] at R9; obtain ⟨A9, cap9, hv9, _⟩ := R9.rd; rw [hL_len] at hv9; subst hv9; obtain ⟨g9, hA9, hg9, hc9⟩ := hL_get2 R9 (i := j) (by omega); subst hA9; have HR9 := Lib.hid R9; have HA9 := Lib.hid ((HA5.out.keep ((Fr.refl (lo := 0) (hi := 0) HF5.out.fresh).alloc _) (.inr (by omega))).keep F9 (.inl (by omega))); clear F9 R9)
        have HSt := Lib.hid (fun (w10 : World) (F : Fr 0 0 o9 o9 w9 w10) => rw_set w9 w10 F HA9.out (by omega) (by omega))
        rw [← HAe.out] at HSt
        generalize hI 1 j = b at *
        go_wp2_with fail
        go_at_call 68
        refine (HSt.out _ (by repeat (first | exact Fr.refl HF9.out.fresh | refine Fr.drew ?_ | refine Fr.alloc ?_ _))).mono ?_
        rintro e w10 ⟨o10, rfl, F10, A10⟩
        have HF10 := Lib.hid (HF9.out.fr F10 (by omega))
        have HA10 := Lib.hid A10
        have HR10 := Lib.hid (HR9.out.keep F10 (.inr (by omega)))
        clear F10 A10
        go_wp2_with fail
        exact ⟨⟨j + 1 + 1, o10, by have := HI.out; omega, by go_num, HF10.out, HA10.out, HR10.out⟩, by have := HI.out; simp [intOf]; omega⟩
    · have hin' : ¬ (i : Int) < (n : Int) := by omega
      obtain rfl : i = n := by omega
      obtain ⟨k, rfl⟩ : ∃ k, i = k + 1 := ⟨i - 1, by have := HL0.out; omega⟩
      have HC0 := Lib.hid (show ChAt oi wr p (hI 1 0 :: sL k) from by rw [← hL_cons]; exact HAi.out.ch (by have := HL0.out; omega))
      obtain ⟨Am, capm, hvm, _⟩ := HRi.out.rd
      rw [hL_len] at hvm
      subst hvm
      obtain ⟨gm, hgm, hgl, hc0⟩ := hL_get2 HRi.out (i := 0) (by omega)
      subst hgm
      have hk0 : (0 : Int) < (k : Int) + 1 := by omega
      have hcap : (1 : Int) ≤ (capm : Int) := by have := HRi.out.capn; omega
      have HCp := Lib.hid HRi.out.capn
      obtain ⟨a, ha⟩ : ∃ a, a = hI 1 0 := ⟨_, rfl⟩
      have HAe := Lib.hid ha
      rw [← ha] at hc0 HC0
      clear ha hi hin
      go_wp2_with fail
      go_at_call 76
      refine (wt_watch wr _ (by repeat (first | exact Fr.refl HFi.out.fresh | refine Fr.drew ?_ | refine Fr.alloc ?_ _)) HC0.out).mono ?_
      rintro e w3 ⟨o3, rfl, F3, A3⟩
      have HF3 := Lib.hid (HFi.out.fr F3 (by omega))
      have HA3 := Lib.hid A3
      have HR3 := Lib.hid (HRi.out.keep F3 (.inr (by omega)))
      have hgl3 := Nat.lt_of_lt_of_le hgl F3.size
      clear F3 A3 hgl hc0
      go_wp2_with fail
      go_at_call 83
      refine (wt_run w3 _ (by repeat (first | exact Fr.refl HF3.out.fresh | refine Fr.drew ?_ | refine Fr.alloc ?_ _)) HA3.out).mono ?_
      rintro e w4 ⟨A1, c1, A2, c2, o4, rfl, F4, _, Q4, A4⟩
      have HF4 := Lib.hid (HF3.out.fr F4 (by omega))
      have HA4 := Lib.hid A4
      have HR4 := Lib.hid (HR3.out.keep F4 (.inr (by omega)))
      have HQ4 := Lib.hid Q4
      have hgl4 := Nat.lt_of_lt_of_le hgl3 F4.size
      clear F4 A4 Q4 hgl3
      have ht1 : (hL 1 (k + 1)).take 1 = [a] := by rw [hL_cons, HAe.out]; rfl
      have HSm := Lib.hid (fun (w6 : World) (F : Fr 0 0 o4 o4 w4 w6) => sameInts_n (xs := [a]) (ca := c2) (cb := capm) (m := 1) rfl w6 F.fresh (HQ4.out.keep fun g hg => F.block g hg (.inr (Nat.zero_le _))) (by have := LRow.rdn ((HR4.out.keep F (.inr (by omega))).take (m := 1) (by rw [hL_len]; omega)); rw [ht1] at this; exact this) F.size (Nat.le_refl _) (by omega))
      have HAl := Lib.hid (fun (w6 : World) (F : Fr 0 0 o4 o4 w4 w6) => td_all w4 w6 F HA4.out)
      rw [sL_len] at HAl
      clear ht1
      go_wp2_with (first
        | (go_at_call 78; refine (HSm.out _ (by repeat (first | exact Fr.refl HF4.out.fresh | refine Fr.drew ?_ | refine Fr.alloc ?_ _))).mono ?_; rintro e w6 ⟨rfl, F6⟩; have HF6 := Lib.hid F6; clear F6)
        | (go_at_call 74; refine (HAl.out _ (by repeat (first | exact HF6.out | refine Fr.drew ?_ | refine Fr.alloc ?_ _))).mono ?_; rintro e w7 ⟨A7, c7, rfl, F7⟩; have HF7 := Lib.hid F7; clear F7))
      have HFa := Lib.hid (HF4.out.fr HF7.out (by omega))
      have HAa := Lib.hid (HA4.out.keep HF7.out (.inr (by omega)))
      have HRa := Lib.hid (HR4.out.keep HF7.out (.inr (by omega)))
      go_at_call 83
      refine (td_run w7 _ (by repeat (first | exact Fr.refl HFa.out.fresh | refine Fr.drew ?_ | refine Fr.alloc ?_ _)) HAa.out).mono ?_
      rintro e w8 ⟨A8, c8, B8, d8, o8, rfl, F8, _, _, A8'⟩
      have HF8 := Lib.hid (HFa.out.fr F8 (by omega))
      have HA8 := Lib.hid A8'
      have HR8 := Lib.hid (HRa.out.keep F8 (.inr (by omega)))
      clear F8 A8'
      go_wp2_with fail
      go_at_call 80
      refine (td_take w8 _ (by repeat (first | exact Fr.refl HF8.out.fresh | refine Fr.drew ?_ | refine Fr.alloc ?_ _)) HA8.out).mono ?_
      rintro e w9 ⟨o9, rfl, F9, A9⟩
      have HF9 := Lib.hid (HF8.out.fr F9 (by omega))
      have HA9 := Lib.hid A9
      have HR9 := Lib.hid (HR8.out.keep F9 (.inr (by omega)))
      clear F9 A9
      cases held with
      | true =>
        have HRn := Lib.hid (fun (w5 : World) (F : Fr 0 0 o9 o9 w9 w5) (b : Nat) (hb : b = w5.heap.size) => ch_idle (g := some ⟨b, 0, none⟩) (c := 1) w9 (w5.alloc (.cells #[.int .i64 a] 3)) (F.alloc _) HA9.out (by have := RdS.one w5 .i64 3 a hb; simpa using this))
        go_wp2_with fail
        go_at_call 83
        refine (HRn.out _ (by repeat (first | exact Fr.refl HF9.out.fresh | refine Fr.drew ?_ | refine Fr.alloc ?_ _)) _ rfl).mono ?_
        rintro e w10 ⟨A10, c10, B10, d10, o10, rfl, F10, _, _, _⟩
        have HF10 := Lib.hid (HF9.out.fr F10 (by omega))
        have HR10 := Lib.hid (HR9.out.keep F10 (.inr (by omega)))
        clear F10
        obtain ⟨g2, e2, hgl, hc0⟩ := hL_get2 HR10.out (i := 0) (by omega)
        cases e2
        rw [← HAe.out] at hc0
        go_wp2_with fail
        go_ret
        exact ⟨rfl, HF10.out.tob⟩
      | false =>
        go_wp2_with fail
        go_at_call 83
        refine (ch_run w9 _ (by repeat (first | exact Fr.refl HF9.out.fresh | refine Fr.drew ?_ | refine Fr.alloc ?_ _)) HA9.out).mono ?_
        rintro e w10 ⟨A10, c10, B10, d10, o10, rfl, F10, Q10, _, _⟩
        have HF10 := Lib.hid (HF9.out.fr F10 (by omega))
        have HR10 := Lib.hid (HR9.out.keep F10 (.inr (by omega)))
        have hla : (a :: sL k).length = k + 1 := by rw [List.length_cons, sL_len]
        have hxa : hL 1 (k + 1) = a :: sL k := by rw [hL_cons, HAe.out]
        rw [hla] at Q10 ⊢
        have HQ := Lib.hid Q10
        have HSm := Lib.hid (fun (w6 : World) (F : Fr 0 0 o10 o10 w10 w6) => sameInts_n (ca := c10) (cb := capm) (m := k + 1) hla w6 F.fresh (HQ.out.keep fun g hg => F.block g hg (.inr (Nat.zero_le _))) (by have := LRow.rdn (HR10.out.keep F (.inr (by omega))); rw [hxa] at this; exact this) F.size (Nat.le_refl _) (by have := HL0.out; omega))
        clear F10 Q10 hla hxa
        obtain ⟨g2, e2, hgl, hc0⟩ := hL_get2 HR10.out (i := 0) (by omega)
        cases e2
        rw [← HAe.out] at hc0
        go_wp2_with fail
        go_at_call 78
        refine (HSm.out _ (by repeat (first | exact Fr.refl HF10.out.fresh | refine Fr.drew ?_ | refine Fr.alloc ?_ _))).mono ?_
        rintro e w11 ⟨rfl, F11⟩
        have HF11 := Lib.hid (HF10.out.fr F11 (by omega))
        clear F11
        go_wp2_with fail
        go_ret
        exact ⟨rfl, HF11.out.tob⟩
theorem dtells_walk (n : Int) (held : Bool) (w : World) : Calls Tryz.prog 21 #[.int .i64 n, .bool held] w fun e w' => e = .returned (.bool true) ∧ Below w.heap.size w w' := by
  by_cases h : n < 1 ∨ 20 < n
  · exact dtells_out n held w h
  · obtain ⟨k, rfl⟩ := Int.eq_ofNat_of_zero_le (show 0 ≤ n by omega)
    exact dtells_in k held w (by omega) (by omega)
end Go.Proofs.YtlpklloagaccoaaGreat
