/- The walk of DrainRows. No condition. -/
import Derived.Test.YtlpklloagaccoaaGreatLaw13
import Derived.Test.YtlpklloagaccoaaGreatLTells
namespace Go.Proofs.YtlpklloagaccoaaGreat
open Go.RowKit
set_option linter.unusedVariables false

set_option maxRecDepth 100000 in
theorem drows_out (n held : Int) (w : World) (h : n < 1 ∨ 60 < n ∨ held < -1 ∨ n ≤ held) :
    Calls Tryz.prog 18 #[.int .i64 n, .int .i64 held] w fun e w' => e = .returned (.bool true) ∧ Below w.heap.size w w' := by
  have HA := Lib.hid (alive13 w)
  have hn : n < 1 ∨ (¬ n < 1 ∧ 60 < n) ∨ (¬ n < 1 ∧ ¬ 60 < n ∧ held < -1) ∨ (¬ n < 1 ∧ ¬ 60 < n ∧ ¬ held < -1 ∧ n ≤ held) := by omega
  clear h
  rcases hn with h0 | ⟨h0, h3⟩ | ⟨h0, h3, h4⟩ | ⟨h0, h3, h4, h5⟩
  all_goals
    go_enter Tryz.func18, Tryz.ntmps18
    go_wp2_with fail
    go_at_call 82
    refine HA.out.mono ?_
    rintro e w1 ⟨rfl, hb⟩
    have HB := Lib.hid hb
    clear hb
    go_wp2_with fail
    go_ret
    exact ⟨rfl, HB.out⟩
theorem hL_get? {o : Own} {w : World} {r c n cap : Nat} {A : Option Addr} (h : LRow o w r (.slice A n cap) (hL c n)) {i : Nat} (hi : i < n) : ∃ g, A = some ⟨g, 0, none⟩ ∧ g < w.heap.size ∧ w.cell? ⟨g, i, none⟩ = some (.int .i64 (hI c i)) := by
  obtain ⟨g, h1, h2, h3, _, _⟩ := h.at_ (i := i) (by rw [hL_len]; exact hi)
  rw [hL_getD hi] at h3
  exact ⟨g, h1, h2, h3⟩
set_option maxRecDepth 100000 in
set_option maxHeartbeats 4000000 in
theorem drows_in (n : Nat) (held : Int) (w : World) (hn1 : 1 ≤ n) (hn : n ≤ 60) (hh1 : -1 ≤ held) (hh2 : held < n) :
    Calls Tryz.prog 18 #[.int .i64 (n : Nat), .int .i64 held] w fun e w' => e = .returned (.bool true) ∧ Below w.heap.size w w' := by
  have HA := Lib.hid (alive13 w)
  have HN := Lib.hid (fun (o : Own) (w1 : World) (ho : Owned o w1) => show Calls Tryz.prog 27 #[.int .i64 30, .int .i64 0, .int .i64 100] w1 (EngNew o w1 1 30 100) from eng_new 1 30 100 w1 ho (by omega) (by omega) (by omega) (by omega))
  have h0 : ¬ (n : Int) < 1 := by omega
  have h1 : ¬ 60 < (n : Int) := by omega
  have h2 : ¬ held < -1 := by omega
  have h3 : ¬ (n : Int) ≤ held := by omega
  have HL0 := Lib.hid (And.intro hn1 (And.intro hn (And.intro hh1 hh2)))
  clear hn1 hn hh1 hh2
  go_enter Tryz.func18, Tryz.ntmps18
  go_wp2_with fail
  go_at_call 82
  refine HA.out.mono ?_
  rintro e w1 ⟨rfl, hb⟩
  have HF1 := Lib.hid (LF.of_below hb)
  clear hb
  go_wp2_with fail
  go_at_call 27
  refine (HN.out _ _ HF1.out.fresh).mono ?_
  rintro e w2 ⟨p, o2, rfl, F2, E2⟩
  have HF2 := Lib.hid (HF1.out.fr F2 (by omega))
  have HA2 := Lib.hid (rw_first (N := 30) (lim := 100) E2)
  clear F2 E2
  go_wp2_with fail
  go_loopw [7, 8] (fun vv iv wr => ∃ (i : Nat) (o' : Own), i ≤ n ∧ iv = .int .i64 i ∧ LF w o' wr ∧ RwAt o' wr p 30 100 i ∧ LRow o' wr 70 vv (hL 1 i)) (fun _ iv _ => n - (intOf iv).toNat)
  case atStart => exact ⟨0, o2, by omega, rfl, HF2.out, HA2.out, LRow.nil _ _ 70⟩
  case round =>
    obtain ⟨i, oi, hi, rfl, Fi, Ai, Ri⟩ := hrel
    have HFi := Lib.hid Fi
    have HRi := Lib.hid Ri
    have HAi := Lib.hid Ai
    clear Fi Ai Ri
    by_cases hin : i < n
    · have hin' : (i : Int) < (n : Int) := by omega
      have HI := Lib.hid (And.intro hin (show i < 60 by have := HL0.out; omega))
      clear hi hin
      have HM := Lib.hid (fun (w5 : World) (F : Fr 0 0 oi oi wr w5) => rw_make wr w5 F HAi.out (by have := HI.out; omega))
      rcases (show i = 0 ∨ ∃ j, i = j + 1 from by cases i with | zero => exact .inl rfl | succ j => exact .inr ⟨j, rfl⟩) with h00 | ⟨j, hj⟩
      · subst h00
        go_wp2_with fail
        go_at_call 66
        refine (HM.out _ (by repeat (first | exact Fr.refl HFi.out.fresh | refine Fr.drew ?_ | refine Fr.alloc ?_ _))).mono ?_
        rintro e w5 ⟨o5, rfl, F5, A5⟩
        have HF5 := Lib.hid (HFi.out.fr F5 (by omega))
        have HA5 := Lib.hid A5.skip
        have HR5 := Lib.hid (HRi.out.keep F5 (.inr (by omega)))
        clear F5 A5
        obtain ⟨a, ha⟩ : ∃ a, a = hI 1 0 := ⟨_, rfl⟩
        have HAe := Lib.hid ha
        rw [← ha]
        clear ha
        go_wp2_with (at_builtin; refine wpList_append_row _ rfl _ _ _ rfl Tryz.underlying38 (own := o5) (by first | exact HF5.out.fresh | exact (HF5.out.alloc _).fresh) 70 rfl (HR5.out.keep (lo := 0) (hi := 0) ((Fr.refl HF5.out.fresh).alloc _) (.inr (by omega))) rfl (RdS.one _ .i64 _ a (by simp)) (by simp [hL]) ?_; intro v9 w9 o9 F9 R9; have HF9 := Lib.hid ((HF5.out.alloc _).fr F9 (by omega)); rw [HAe.out, ← hL_succ] at R9; have HR9 := Lib.hid R9; have HA9 := Lib.hid ((HA5.out.keep ((Fr.refl (lo := 0) (hi := 0) HF5.out.fresh).alloc _) (.inr (by omega))).keep F9 (.inl (by omega))); clear F9 R9)
        exact ⟨⟨1, o9, by have := HI.out; omega, by go_num, HF9.out, HA9.out, HR9.out⟩, by have := HI.out; simp [intOf]; omega⟩
      · subst hj
        have hj60 : (j : Int) + 1 < 60 := by have := HI.out; omega
        go_wp2_with fail
        go_at_call 66
        refine (HM.out _ (by repeat (first | exact Fr.refl HFi.out.fresh | refine Fr.drew ?_ | refine Fr.alloc ?_ _))).mono ?_
        rintro e w5 ⟨o5, rfl, F5, A5⟩
        have HF5 := Lib.hid (HFi.out.fr F5 (by omega))
        have HA5 := Lib.hid A5
        have HR5 := Lib.hid (HRi.out.keep F5 (.inr (by omega)))
        clear F5 A5
        obtain ⟨a, ha⟩ : ∃ a, a = hI 1 (j + 1) := ⟨_, rfl⟩
        have HAe := Lib.hid ha
        rw [← ha]
        clear ha
        go_wp2_with (at_builtin; refine wpList_append_row _ rfl _ _ _ rfl Tryz.underlying38 (own := o5) (by first | exact HF5.out.fresh | exact (HF5.out.alloc _).fresh) 70 rfl (HR5.out.keep (lo := 0) (hi := 0) ((Fr.refl HF5.out.fresh).alloc _) (.inr (by omega))) rfl (RdS.one _ .i64 _ a (by simp)) (by rw [hL_len]; omega) ?_; intro v9 w9 o9 F9 R9; have HF9 := Lib.hid ((HF5.out.alloc _).fr F9 (by omega)); rw [HAe.out, ← hL_succ] at R9; obtain ⟨A9, cap9, hv9, _⟩ := R9.rd; rw [hL_len] at hv9; subst hv9; obtain ⟨g9, hA9, hg9, hc9⟩ := hL_get? R9 (i := j) (by omega); subst hA9; have HR9 := Lib.hid R9; have HA9 := Lib.hid ((HA5.out.keep ((Fr.refl (lo := 0) (hi := 0) HF5.out.fresh).alloc _) (.inr (by omega))).keep F9 (.inl (by omega))); clear F9 R9)
        have HSt := Lib.hid (fun (w10 : World) (F : Fr 0 0 o9 o9 w9 w10) => rw_set w9 w10 F HA9.out (by omega) (by omega))
        rw [← HAe.out] at HSt
        generalize hI 1 j = b at *
        go_wp2_with fail
        go_at_call 68
        refine (HSt.out _ (by repeat (first | exact Fr.refl HF9.out.fresh | refine Fr.drew ?_ | refine Fr.alloc ?_ _))).mono ?_
        rintro e w10 ⟨o10, rfl, F10, A10⟩
        have HF10 := Lib.hid (HF9.out.fr F10 (by omega))
        have HA10 := Lib.hid A10
        have HR10 := Lib.hid (HR9.out.keep F10 (.inr (by omega)))
        clear F10 A10
        go_wp2_with fail
        exact ⟨⟨j + 1 + 1, o10, by have := HI.out; omega, by go_num, HF10.out, HA10.out, HR10.out⟩, by have := HI.out; simp [intOf]; omega⟩
    · have hin' : ¬ (i : Int) < (n : Int) := by omega
      obtain rfl : i = n := by omega
      have HL1 := Lib.hid (HAi.out.ch (by have := HL0.out; omega))
      obtain ⟨Am, capm, hvm, _⟩ := HRi.out.rd
      rw [hL_len] at hvm
      subst hvm
      obtain ⟨gm, hgm, hgl, _⟩ := hL_get? HRi.out (i := 0) (by have := HL0.out; omega)
      subst hgm
      have hcap : (i : Int) ≤ (capm : Int) := by
        obtain ⟨R, _⟩ := Row.rowB HRi.out.1
        obtain ⟨cur, _, _, h5, _⟩ := R
        rw [hL_len] at h5
        omega
      have hi0 : (0 : Int) ≤ (i : Int) := by omega
      clear hi hin
      rcases (show held = -1 ∨ ∃ j : Nat, held = (j : Nat) ∧ j < i from by
        have := HL0.out
        by_cases e : held = -1
        · exact .inl e
        · exact .inr ⟨held.toNat, by omega, by omega⟩) with rfl | ⟨j, rfl, hj⟩
      · go_wp2_with fail
        go_at_call 83
        refine (ch_run wr _ (by repeat (first | exact Fr.refl HFi.out.fresh | refine Fr.drew ?_ | refine Fr.alloc ?_ _)) HL1.out).mono ?_
        rintro e w5 ⟨A1, c1, A2, c2, o5, rfl, F5, R5, _, A5⟩
        have HF5 := Lib.hid (HFi.out.fr F5 (by omega))
        have HA5 := Lib.hid A5
        have HR5 := Lib.hid (HRi.out.keep F5 (.inr (by omega)))
        have HQ5 := Lib.hid R5
        have hgl5 := Nat.lt_of_lt_of_le hgl F5.size
        clear F5 A5 R5 hgl
        rw [hL_len] at HQ5 ⊢
        have HSm := Lib.hid (fun (w6 : World) (F : Fr 0 0 o5 o5 w5 w6) => sameInts_n (ca := c1) (cb := capm) (m := i) (hL_len 1 i) w6 F.fresh (HQ5.out.keep fun g hg => F.block g hg (.inr (Nat.zero_le _))) (LRow.rdn (HR5.out.keep F (.inr (by omega)))) F.size (Nat.le_refl _) (by have := HL0.out; omega))
        have HAl := Lib.hid (fun (w6 : World) (F : Fr 0 0 o5 o5 w5 w6) => ch_all w5 w6 F HA5.out)
        go_wp2_with (first
          | (go_at_call 78; refine (HSm.out _ (by repeat (first | exact Fr.refl HF5.out.fresh | refine Fr.drew ?_ | refine Fr.alloc ?_ _))).mono ?_; rintro e w6 ⟨rfl, F6⟩; have HF6 := Lib.hid F6; clear F6)
          | (go_at_call 74; refine (HAl.out _ (by repeat (first | exact HF6.out | refine Fr.drew ?_ | refine Fr.alloc ?_ _))).mono ?_; rintro e w7 ⟨A7, c7, rfl, F7⟩; have HF7 := Lib.hid (HF5.out.fr F7 (by omega)); clear F7))
        go_ret
        exact ⟨rfl, HF7.out.tob⟩
      · have hji : (j : Int) < (i : Int) := by omega
        have hjc : (j : Int) ≤ (capm : Int) := by omega
        obtain ⟨g2, e2, _, hcj⟩ := hL_get? HRi.out hj
        cases e2
        have hgd := hL_getD (c := 1) hj
        obtain ⟨a, ha⟩ : ∃ a, a = hI 1 j := ⟨_, rfl⟩
        rw [← ha] at hcj hgd
        clear ha
        have HRn := Lib.hid (fun (w5 : World) (F : Fr 0 0 oi oi wr w5) (b : Nat) (hb : b = w5.heap.size) => ch_run_at (j := j) (g := some ⟨b, 0, none⟩) (c := 1) wr (w5.alloc (.cells #[.int .i64 a] 3)) (F.alloc _) HL1.out (by rw [hL_len]; exact hj) (by rw [hgd]; have := RdS.one w5 .i64 3 a hb; simpa using this))
        clear hgd
        go_wp2_with fail
        go_at_call 83
        refine (HRn.out _ (by repeat (first | exact Fr.refl HFi.out.fresh | refine Fr.drew ?_ | refine Fr.alloc ?_ _)) _ rfl).mono ?_
        rintro e w5 ⟨A1, c1, A2, c2, o5, rfl, F5, R5, _, A5⟩
        have HF5 := Lib.hid (HFi.out.fr F5 (by omega))
        have HA5 := Lib.hid A5
        have HR5 := Lib.hid (HRi.out.keep F5 (.inr (by omega)))
        have HQ5 := Lib.hid R5
        have hgl5 := Nat.lt_of_lt_of_le hgl F5.size
        have hlt : ((hL 1 i).take j).length = j := by rw [List.length_take, hL_len]; omega
        have hld : ((hL 1 i).drop j).length = i - j := by rw [List.length_drop, hL_len]
        clear F5 A5 R5 hgl hcj
        rw [hlt] at HQ5 ⊢
        have HSm := Lib.hid (fun (w6 : World) (F : Fr 0 0 o5 o5 w5 w6) => sameInts_n (ca := c1) (cb := capm) (m := j) hlt w6 F.fresh (HQ5.out.keep fun g hg => F.block g hg (.inr (Nat.zero_le _))) (LRow.rdn ((HR5.out.keep F (.inr (by omega))).take (m := j) (by rw [hL_len]; omega))) F.size (Nat.le_refl _) (by have := HL0.out; omega))
        have HAl := Lib.hid (fun (w6 : World) (F : Fr 0 0 o5 o5 w5 w6) => ch_all w5 w6 F HA5.out)
        rw [hld] at HAl
        have hsub : ((i - j : Nat) : Int) = (i : Int) - (j : Int) := by omega
        clear hlt hld
        go_wp2_with (first
          | (go_at_call 78; refine (HSm.out _ (by repeat (first | exact Fr.refl HF5.out.fresh | refine Fr.drew ?_ | refine Fr.alloc ?_ _))).mono ?_; rintro e w6 ⟨rfl, F6⟩; have HF6 := Lib.hid F6; clear F6)
          | (go_at_call 74; refine (HAl.out _ (by repeat (first | exact HF6.out | refine Fr.drew ?_ | refine Fr.alloc ?_ _))).mono ?_; rintro e w7 ⟨A7, c7, rfl, F7⟩; have HF7 := Lib.hid (HF5.out.fr F7 (by omega)); clear F7))
        go_ret
        exact ⟨rfl, HF7.out.tob⟩
theorem drows_walk (n held : Int) (w : World) : Calls Tryz.prog 18 #[.int .i64 n, .int .i64 held] w fun e w' => e = .returned (.bool true) ∧ Below w.heap.size w w' := by
  by_cases h : n < 1 ∨ 60 < n ∨ held < -1 ∨ n ≤ held
  · exact drows_out n held w h
  · obtain ⟨k, rfl⟩ := Int.eq_ofNat_of_zero_le (show 0 ≤ n by omega)
    exact drows_in k held w (by omega) (by omega) (by omega) (by omega)
end Go.Proofs.YtlpklloagaccoaaGreat
