/- The walk of DrainShares. No condition. -/
import Derived.Test.YtlpklloagaccoaaGreatLaw13
import Derived.Test.YtlpklloagaccoaaGreatLTells
import Derived.StillTailTactics
namespace Go.Proofs.YtlpklloagaccoaaGreat
open Go.RowKit
set_option linter.unusedVariables false

theorem LRow.rdrop {o : Own} {w : World} {r g n cap : Nat} {xs : List Int} (h : LRow o w r (.slice (some ⟨g, 0, none⟩) n cap) xs) (i : Nat) : RdS w w.heap.size .i64 (some ⟨g, i, none⟩) (n - i) (xs.drop i) := by
  obtain rfl := h.len
  refine ⟨by rw [List.length_drop], fun hn => ⟨g, i, rfl, ?_, fun j hj => ?_⟩⟩
  · obtain ⟨R, _⟩ := Row.rowB h.1
    exact R.lt
  · obtain ⟨R, _⟩ := Row.rowB h.1
    rw [R.cell (i := i + j) (by omega)]
    simp [List.getD]
theorem sL_get? {o : Own} {w : World} {r n cap : Nat} {A : Option Addr} (h : LRow o w r (.slice A n cap) (sL n)) {i : Nat} (hi : i < n) : ∃ g, A = some ⟨g, 0, none⟩ ∧ g < w.heap.size ∧ w.cell? ⟨g, i, none⟩ = some (.int .i64 (hI 1 (i + 1))) := by
  obtain ⟨g, h1, h2, h3, _, _⟩ := h.at_ (i := i) (by rw [sL_len]; exact hi)
  rw [sL_getD hi] at h3
  exact ⟨g, h1, h2, h3⟩
set_option maxRecDepth 100000 in
theorem dshares_out (n : Int) (w : World) (h : n < 1 ∨ 20 < n) :
    Calls Tryz.prog 19 #[.int .i64 n] w fun e w' => e = .returned (.bool true) ∧ Below w.heap.size w w' := by
  have HA := Lib.hid (alive13 w)
  have hn : n < 1 ∨ (¬ n < 1 ∧ 20 < n) := by omega
  clear h
  rcases hn with h0 | ⟨h0, h3⟩
  all_goals
    go_enter Tryz.func19, Tryz.ntmps19
    go_wp2_with fail
    go_at_call 82
    refine HA.out.mono ?_
    rintro e w1 ⟨rfl, hb⟩
    have HB := Lib.hid hb
    clear hb
    go_wp2_with fail
    go_ret
    exact ⟨rfl, HB.out⟩
set_option maxRecDepth 100000 in
set_option maxHeartbeats 4000000 in
theorem dshares_in (n : Nat) (w : World) (hn1 : 1 ≤ n) (hn : n ≤ 20) :
    Calls Tryz.prog 19 #[.int .i64 (n : Nat)] w fun e w' => e = .returned (.bool true) ∧ Below w.heap.size w w' := by
  have HA := Lib.hid (alive13 w)
  have HN := Lib.hid (fun (o : Own) (w1 : World) (ho : Owned o w1) => show Calls Tryz.prog 27 #[.int .i64 20, .int .i64 0, .int .i64 1000] w1 (EngNew o w1 1 20 1000) from eng_new 1 20 1000 w1 ho (by omega) (by omega) (by omega) (by omega))
  have h0 : ¬ (n : Int) < 1 := by omega
  have h1 : ¬ 20 < (n : Int) := by omega
  have HL0 := Lib.hid (And.intro hn1 hn)
  clear hn1 hn
  go_enter Tryz.func19, Tryz.ntmps19
  go_wp2_with fail
  go_at_call 82
  refine HA.out.mono ?_
  rintro e w1 ⟨rfl, hb⟩
  have HF1 := Lib.hid (LF.of_below hb)
  clear hb
  go_wp2_with fail
  go_at_call 27
  refine (HN.out _ _ HF1.out.fresh).mono ?_
  rintro e w2 ⟨p, o2, rfl, F2, E2⟩
  have HF2 := Lib.hid (HF1.out.fr F2 (by omega))
  have HE2 := Lib.hid E2
  clear F2 E2
  go_wp2_with fail
  go_at_call 66
  refine (sh_first w2 _ (by repeat (first | exact Fr.refl HF2.out.fresh | refine Fr.drew ?_ | refine Fr.alloc ?_ _)) HE2.out).mono ?_
  rintro e w3 ⟨o3, rfl, F3, A3⟩
  have HF3 := Lib.hid (HF2.out.fr F3 (by omega))
  have HA3 := Lib.hid A3
  clear F3 A3
  obtain ⟨x, hx⟩ : ∃ x, x = hI 1 0 := ⟨_, rfl⟩
  have HXe := Lib.hid hx
  rw [← hx]
  clear hx
  go_wp2_with fail
  go_loopw [7, 8] (fun vv iv wr => ∃ (i : Nat) (o' : Own), i ≤ n ∧ iv = .int .i64 i ∧ LF w o' wr ∧ ShAt o' wr p i ∧ LRow o' wr 70 vv (sL i)) (fun _ iv _ => n - (intOf iv).toNat)
  case atStart => exact ⟨0, o3, by omega, rfl, HF3.out, HA3.out, LRow.nil _ _ 70⟩
  case round =>
    obtain ⟨i, oi, hi, rfl, Fi, Ai, Ri⟩ := hrel
    have HFi := Lib.hid Fi
    have HRi := Lib.hid Ri
    have HAi := Lib.hid Ai
    clear Fi Ai Ri
    by_cases hin : i < n
    · have hin' : (i : Int) < (n : Int) := by omega
      have HI := Lib.hid (And.intro hin (show i < 20 by have := HL0.out; omega))
      clear hi hin
      go_wp2_with fail
      go_at_call 66
      refine (sh_make wr _ (by repeat (first | exact Fr.refl HFi.out.fresh | refine Fr.drew ?_ | refine Fr.alloc ?_ _)) HAi.out HI.out.2).mono ?_
      rintro e w5 ⟨o5, rfl, F5, A5⟩
      have HF5 := Lib.hid (HFi.out.fr F5 (by omega))
      have HA5 := Lib.hid A5
      have HR5 := Lib.hid (HRi.out.keep F5 (.inr (by omega)))
      clear F5 A5
      have HSt := Lib.hid (fun (w10 : World) (F : Fr 0 0 o5 o5 w5 w10) => sh_set w5 w10 F HA5.out HI.out.2)
      obtain ⟨a, ha⟩ : ∃ a, a = hI 1 (i + 1) := ⟨_, rfl⟩
      have HAe := Lib.hid ha
      rw [← HXe.out, ← ha] at HSt
      rw [← ha]
      clear ha
      go_wp2_with fail
      go_at_call 68
      refine (HSt.out _ (by repeat (first | exact Fr.refl HF5.out.fresh | refine Fr.drew ?_ | refine Fr.alloc ?_ _))).mono ?_
      rintro e w6 ⟨o6, rfl, F6, A6⟩
      have HF6 := Lib.hid (HF5.out.fr F6 (by omega))
      have HA6 := Lib.hid A6
      have HR6 := Lib.hid (HR5.out.keep F6 (.inr (by omega)))
      clear F6 A6
      go_wp2_with (at_builtin; refine wpList_append_row _ rfl _ _ _ rfl Tryz.underlying38 (own := o6) (by first | exact HF6.out.fresh | exact (HF6.out.alloc _).fresh) 70 rfl (HR6.out.keep (lo := 0) (hi := 0) ((Fr.refl HF6.out.fresh).alloc _) (.inr (by omega))) rfl (RdS.one _ .i64 _ a (by simp)) (by rw [sL_len]; have := HI.out; omega) ?_; intro v9 w9 o9 F9 R9; have HF9 := Lib.hid ((HF6.out.alloc _).fr F9 (by omega)); rw [HAe.out, ← sL_succ] at R9; have HR9 := Lib.hid R9; have HA9 := Lib.hid ((HA6.out.keep ((Fr.refl (lo := 0) (hi := 0) HF6.out.fresh).alloc _) (.inr (by omega))).keep F9 (.inl (by omega))); clear F9 R9)
      exact ⟨⟨i + 1, o9, by have := HI.out; omega, by go_num, HF9.out, HA9.out, HR9.out⟩, by have := HI.out; simp [intOf]; omega⟩
    · have hin' : ¬ (i : Int) < (n : Int) := by omega
      obtain rfl : i = n := by omega
      have HD := Lib.hid (HAi.out.ds (by have := HL0.out; omega))
      rw [← HXe.out] at HD
      obtain ⟨Am, capm, hvm, _⟩ := HRi.out.rd
      rw [sL_len] at hvm
      subst hvm
      obtain ⟨gm, hgm, hgl, hc0⟩ := sL_get? HRi.out (i := 0) (by have := HL0.out; omega)
      subst hgm
      have HCp := Lib.hid HRi.out.capn
      clear hi hin hgl hc0
      go_wp2_with fail
      go_loopw [11, 12, 13, 14] (fun jv _ _ _ wr => ∃ (j : Nat) (o' : Own), j ≤ i ∧ jv = .int .i64 j ∧ LF w o' wr ∧ DsAt o' wr p x ((sL i).drop (j - 1)) ∧ LRow o' wr 70 (.slice (some ⟨gm, 0, none⟩) i capm) (sL i)) (fun jv _ _ _ _ => i - (intOf jv).toNat)
      case atStart => exact ⟨0, oi, by omega, rfl, HFi.out, HD.out, HRi.out⟩
      case round =>
        obtain ⟨j, oj, hj, rfl, Fj, Aj, Rj⟩ := hrel
        have HFj := Lib.hid Fj
        have HRj := Lib.hid Rj
        have HAj := Lib.hid Aj
        clear Fj Aj Rj
        by_cases hjn : j < i
        · have hjn' : (j : Int) < (i : Int) := by omega
          have hji : (j : Int) ≤ (i : Int) := by omega
          have hjc : (j : Int) ≤ (capm : Int) := by have := HCp.out; omega
          have hic : (i : Int) ≤ (capm : Int) := by have := HCp.out; omega
          have hj0 : 0 ≤ (j : Int) := by omega
          have HI := Lib.hid hjn
          have hne : (sL i).drop j ≠ [] := by
            intro e
            have := congrArg List.length e
            rw [List.length_drop, sL_len] at this
            simp at this; omega
          clear hj hjn
          rcases (show j = 0 ∨ ∃ k, j = k + 1 from by cases j with | zero => exact .inl rfl | succ k => exact .inr ⟨k, rfl⟩) with h00 | ⟨k, hk⟩
          · subst h00
            have HRn := Lib.hid (fun (w5 : World) (F : Fr 0 0 oj oj wr w5) => sh_idle (c := capm) wr w5 F HAj.out hne (show RdS w5 w5.heap.size .i64 (some ⟨gm, 0, none⟩) i (sL i) from LRow.rdn (HRj.out.keep F (.inr (by omega)))))
            clear hne
            go_wp2_with fail
            go_at_call 83
            refine (HRn.out _ (by repeat (first | exact Fr.refl HFj.out.fresh | refine Fr.drew ?_ | refine Fr.alloc ?_ _))).mono ?_
            rintro e w5 ⟨A1, c1, A2, c2, o5, rfl, F5, _, _, A5⟩
            have HF5 := Lib.hid (HFj.out.fr F5 (by omega))
            have HA5 := Lib.hid A5
            have HR5 := Lib.hid (HRj.out.keep F5 (.inr (by omega)))
            clear F5 A5
            go_wp2_with (go_at_call 33; refine (sh_kind w5 _ (by repeat (first | exact Fr.refl HF5.out.fresh | refine Fr.drew ?_ | refine Fr.alloc ?_ _)) HA5.out).mono ?_; rintro e w6 ⟨q6, rfl, hq6, F6⟩; have HF6 := Lib.hid F6; clear F6; have hq0 : (q6 == 0) = false := beq_eq_false_iff_ne.2 (by omega))
            exact ⟨⟨1, o5, by have := HI.out; omega, by go_num, HF5.out.fr HF6.out (by omega), HA5.out.keep HF6.out (.inr (by omega)), HR5.out.keep HF6.out (.inr (by omega))⟩, by have := HI.out; simp [intOf]; omega⟩
          · subst hk
            have hdk : (sL i).drop k = hI 1 (k + 1) :: (sL i).drop (k + 1) := by
              rw [List.drop_eq_getElem_cons (by rw [sL_len]; have := HI.out; omega)]
              have := sL_getD (n := i) (i := k) (by have := HI.out; omega)
              rw [← this]
              simp [List.getD, show k < (sL i).length from by rw [sL_len]; have := HI.out; omega]
            have HAk := Lib.hid (show DsAt oj wr p x (hI 1 (k + 1) :: (sL i).drop (k + 1)) from by rw [← hdk]; exact HAj.out)
            have HRn := Lib.hid (fun (w5 : World) (F : Fr 0 0 oj oj wr w5) => sh_next (c := capm - (k + 1)) wr w5 F HAk.out hne (LRow.rdrop (HRj.out.keep F (.inr (by omega))) (k + 1)))
            clear hne hdk
            go_wp2_with fail
            go_at_call 83
            refine (HRn.out _ (by repeat (first | exact Fr.refl HFj.out.fresh | refine Fr.drew ?_ | refine Fr.alloc ?_ _))).mono ?_
            rintro e w5 ⟨A1, c1, A2, c2, o5, rfl, F5, _, _, A5⟩
            have HF5 := Lib.hid (HFj.out.fr F5 (by omega))
            have HA5 := Lib.hid A5
            have HR5 := Lib.hid (HRj.out.keep F5 (.inr (by omega)))
            clear F5 A5
            go_wp2_with (go_at_call 33; refine (sh_kind w5 _ (by repeat (first | exact Fr.refl HF5.out.fresh | refine Fr.drew ?_ | refine Fr.alloc ?_ _)) HA5.out).mono ?_; rintro e w6 ⟨q6, rfl, hq6, F6⟩; have HF6 := Lib.hid F6; clear F6; have hq0 : (q6 == 0) = false := beq_eq_false_iff_ne.2 (by omega))
            exact ⟨⟨k + 1 + 1, o5, by have := HI.out; omega, by go_num, HF5.out.fr HF6.out (by omega), HA5.out.keep HF6.out (.inr (by omega)), HR5.out.keep HF6.out (.inr (by omega))⟩, by have := HI.out; simp [intOf]; omega⟩
        · have hjn' : ¬ (j : Int) < (i : Int) := by omega
          obtain rfl : j = i := by omega
          obtain ⟨k, rfl⟩ : ∃ k, j = k + 1 := ⟨j - 1, by have := HL0.out; omega⟩
          have hdk : (sL (k + 1)).drop (k + 1 - 1) = [hI 1 (k + 1)] := by
            rw [Nat.add_sub_cancel, List.drop_eq_getElem_cons (by rw [sL_len]; omega), List.drop_of_length_le (by rw [sL_len]; omega)]
            have := sL_getD (n := k + 1) (i := k) (by omega)
            rw [← this]
            simp [List.getD, show k < (sL (k + 1)).length from by rw [sL_len]; omega]
          rw [hdk] at HAj
          obtain ⟨g2, e2, hgl, _⟩ := sL_get? HRj.out (i := k) (by omega)
          cases e2
          clear hdk hj hjn
          obtain ⟨b, hb⟩ : ∃ b, b = hI 1 (k + 1) := ⟨_, rfl⟩
          have HBe := Lib.hid hb
          rw [← hb] at HAj
          clear hb
          have HHc := Lib.hid hgl
          clear hgl
          go_wp2_with fail
          go_at_call 83
          refine (sh_last wr _ (by repeat (first | exact Fr.refl HFj.out.fresh | refine Fr.drew ?_ | refine Fr.alloc ?_ _)) HAj.out).mono ?_
          rintro e w5 ⟨A1, c1, A2, c2, o5, rfl, F5, R5, _, A5⟩
          have HF5 := Lib.hid (HFj.out.fr F5 (by omega))
          have HA5 := Lib.hid A5
          have HR5 := Lib.hid (HRj.out.keep F5 (.inr (by omega)))
          obtain ⟨b5, f5, hA5, hb5, hc50⟩ := R5.at_ (i := 0) (by simp)
          obtain ⟨b6, f6, hA6, _, hc51⟩ := R5.at_ (i := 1) (by simp)
          subst hA5
          cases hA6
          have hgl5 := Nat.lt_of_lt_of_le HHc.out F5.size
          obtain ⟨g2, e2, _, hck⟩ := sL_get? HR5.out (i := k) (by omega)
          cases e2
          rw [← HBe.out] at hck
          rw [Nat.add_zero] at hc50
          have e0 : ([b, x] : List Int).getD 0 0 = b := rfl
          have e1 : ([b, x] : List Int).getD 1 0 = x := rfl
          rw [e0] at hc50
          rw [e1] at hc51
          have hkl : (k : Int) ≤ 20 := by have := HL0.out; omega
          have hw1 : IntKind.i64.wrap ((k : Int) + 1 - 1) = (k : Int) := by rw [IntKind.wrap_i64]; omega
          have hw2 : IntKind.i64.wrap (k : Int) = (k : Int) := by rw [IntKind.wrap_i64]; omega
          have hk1 : (0 : Int) ≤ (k : Int) := by omega
          have hk2 : (k : Int) < (k : Int) + 1 := by omega
          have h20 : (0 : Int) < ((2 : Nat) : Int) := by omega
          have h21 : (1 : Int) < ((2 : Nat) : Int) := by omega
          clear F5 R5 A5 e0 e1
          have HAl := Lib.hid (fun (w6 : World) (F : Fr 0 0 o5 o5 w5 w6) => no_all w5 w6 F HA5.out)
          go_wp2_with fail
          go_still_tail 23, (by kernel_rfl)
          change wpList _ _ _ _ _ w5.drew
          go_wp2_with (go_at_call 74; refine (HAl.out _ (by repeat (first | exact Fr.refl HF5.out.fresh | refine Fr.drew ?_ | refine Fr.alloc ?_ _))).mono ?_; rintro e w7 ⟨A7, c7, rfl, F7⟩; have HF7 := Lib.hid (HF5.out.fr F7 (by omega)); clear F7)
          go_ret
          exact ⟨rfl, HF7.out.tob⟩
theorem dshares_walk (n : Int) (w : World) : Calls Tryz.prog 19 #[.int .i64 n] w fun e w' => e = .returned (.bool true) ∧ Below w.heap.size w w' := by
  by_cases h : n < 1 ∨ 20 < n
  · exact dshares_out n w h
  · obtain ⟨k, rfl⟩ := Int.eq_ofNat_of_zero_le (show 0 ≤ n by omega)
    exact dshares_in k w (by omega) (by omega)
end Go.Proofs.YtlpklloagaccoaaGreat
