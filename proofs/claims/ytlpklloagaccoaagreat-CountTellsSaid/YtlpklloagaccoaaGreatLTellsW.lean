/- The walk of CountTells. No condition but on how the slice lies. -/
import Derived.Test.YtlpklloagaccoaaGreatLTells
import Derived.Outline
namespace Go.Proofs.YtlpklloagaccoaaGreat
open Go.RowKit
set_option linter.unusedVariables false

set_option maxRecDepth 100000 in
theorem tells_out (n : Int) (a1 : Option Addr) (m c1 : Nat) (w : World) (h : n < 1 ∨ 20 < n ∨ 60 < m) (h2 : m ≤ maxLen) :
    Calls Tryz.prog 15 #[.int .i64 n, .slice a1 m c1] w fun e w' => e = .returned (.bool true) ∧ Below w.heap.size w w' := by
  have HA := Lib.hid (alive12 w)
  unfold maxLen at h2
  have hn : n < 1 ∨ (¬ n < 1 ∧ 20 < n) ∨ (¬ n < 1 ∧ ¬ 20 < n ∧ 60 < (m : Int)) := by omega
  clear h
  rcases hn with h0 | ⟨h0, h3⟩ | ⟨h0, h3, h4⟩
  all_goals
    go_enter Tryz.func15, Tryz.ntmps15
    go_wp2_with fail
    go_at_call 65
    refine HA.out.mono ?_
    rintro e w1 ⟨rfl, hb⟩
    have HB := Lib.hid hb
    clear hb
    go_wp2_with fail
    go_ret
    exact ⟨rfl, HB.out⟩
set_option maxRecDepth 100000 in
set_option maxHeartbeats 4000000 in
theorem tells_in (n : Nat) (a1 : Option Addr) (m c1 : Nat) (q : List Int) (w : World) (hn1 : 1 ≤ n) (hn : n ≤ 20) (hm : m ≤ 60) (R1 : RdS w w.heap.size .i64 a1 m q) :
    Calls Tryz.prog 15 #[.int .i64 (n : Nat), .slice a1 m c1] w fun e w' => e = .returned (.bool true) ∧ Below w.heap.size w w' := by
  have HA := Lib.hid (alive12 w)
  have HN := Lib.hid (fun (o : Own) (w1 : World) (ho : Owned o w1) => show Calls Tryz.prog 27 #[.int .i64 20, .int .i64 0, .int .i64 1000] w1 (EngNew o w1 1 20 1000) from eng_new 1 20 1000 w1 ho (by omega) (by omega) (by omega) (by omega))
  have HR1 := Lib.hid R1
  have h0 : ¬ (n : Int) < 1 := by omega
  have h1 : ¬ 20 < (n : Int) := by omega
  have h2 : ¬ 60 < (m : Int) := by omega
  have HL0 := Lib.hid (And.intro hn1 (And.intro hn hm))
  have hdn : ((n : Int) == 0) = false := by simp; omega
  have hdn' : ¬ (n : Int) = 0 := by omega
  clear hn1 hn hm R1
  go_enter Tryz.func15, Tryz.ntmps15
  go_wp2_with fail
  go_at_call 65
  refine HA.out.mono ?_
  rintro e w1 ⟨rfl, hb⟩
  have HF1 := Lib.hid (LF.of_below hb)
  clear hb
  go_wp2_with fail
  go_at_call 27
  refine (HN.out _ _ HF1.out.fresh).mono ?_
  rintro e w2 ⟨p, o2, rfl, F2, E2⟩
  have HF2 := Lib.hid (HF1.out.fr F2 (by omega))
  have HA2 := Lib.hid (show MkT o2 w2 p [] from ⟨_, E2, TkM.first⟩)
  clear F2 E2
  go_wp2_with fail
  go_loopw [7, 9] (fun vv iv wr => ∃ (i : Nat) (o' : Own) (hs : List Int), i ≤ n ∧ hs.length = i ∧ iv = .int .i64 i ∧ LF w o' wr ∧ MkT o' wr p hs ∧ LRow o' wr 40 vv hs) (fun _ iv _ => n - (intOf iv).toNat)
  case atStart => exact ⟨0, o2, [], by omega, rfl, rfl, HF2.out, HA2.out, LRow.nil _ _ 40⟩
  case round =>
    obtain ⟨i, oi, hs, hi, hl, rfl, Fi, Ai, Ri⟩ := hrel
    by_cases hin : i < n
    · have hin' : (i : Int) < (n : Int) := by omega
      have HFi := Lib.hid Fi
      have HRi := Lib.hid Ri
      have HL := Lib.hid hl
      have HM := Lib.hid (fun (w5 : World) (F : Fr 0 0 oi oi wr w5) => tk_make wr w5 F Ai (by have := HL0.out; omega))
      clear Fi Ai Ri hl hi
      go_wp2_with fail
      go_at_call 66
      refine (HM.out _ (by repeat (first | exact Fr.refl HFi.out.fresh | refine Fr.drew ?_ | refine Fr.alloc ?_ _))).mono ?_
      rintro e w5 ⟨a, o5, rfl, F5, A5⟩
      have HF5 := Lib.hid (HFi.out.fr F5 (by omega))
      have HA5 := Lib.hid A5
      have HR5 := Lib.hid (HRi.out.keep F5 (.inr (by omega)))
      clear F5 A5
      go_wp2_with (first
        | (go_at_call 67; refine (num12 _ _).mono ?_; rintro e w' ⟨rfl, rfl⟩)
        | (go_at_call 75; refine (tk_tell_no w5 _ (by repeat (first | exact Fr.refl HF5.out.fresh | refine Fr.drew ?_ | refine Fr.alloc ?_ _)) HA5.out).mono ?_; rintro e w6 ⟨rfl, F6⟩; have HF6 := Lib.hid F6; clear F6)
        | (go_at_call 76; refine (tk_watch w5 _ (by repeat (first | exact HF6.out | refine Fr.drew ?_ | refine Fr.alloc ?_ _)) HA5.out).mono ?_; rintro e w7 ⟨o7, rfl, F7, A7⟩; have HF7 := Lib.hid (HF5.out.fr F7 (by omega)); have HA7 := Lib.hid A7; have HR7 := Lib.hid (HR5.out.keep F7 (.inr (by omega))); clear F7 A7)
        | (go_at_call 77; refine (tk_watched w7 _ (by repeat (first | exact Fr.refl HF7.out.fresh | refine Fr.drew ?_ | refine Fr.alloc ?_ _)) HA7.out).mono ?_; rintro e w8 ⟨rfl, F8⟩; have HF8 := Lib.hid (HF7.out.fr F8 (by omega)); have HA8 := Lib.hid (HA7.out.keep F8 (.inr (by omega))).mk; have HR8 := Lib.hid (HR7.out.keep F8 (.inr (by omega))); clear F8)
        | (at_builtin; refine wpList_append_row _ rfl _ _ _ rfl Tryz.underlying38 (own := o7) (by first | exact HF8.out.fresh | exact (HF8.out.alloc _).fresh) 40 rfl (HR8.out.keep (lo := 0) (hi := 0) ((Fr.refl HF8.out.fresh).alloc _) (.inr (by omega))) rfl (RdS.one _ .i64 _ a (by simp)) (by have := HL.out; have := HL0.out; omega) ?_; intro v9 w9 o9 F9 R9; have HF9 := Lib.hid ((HF8.out.alloc _).fr F9 (by omega)); have HR9 := Lib.hid R9; have HA9 := Lib.hid ((HA8.out.keep ((Fr.refl (lo := 0) (hi := 0) HF8.out.fresh).alloc _) (.inr (by omega))).keep F9 (.inl (by omega))); clear F9 R9))
      exact ⟨⟨i + 1, o9, hs ++ [a], by omega, by rw [List.length_append, HL.out]; rfl, by go_num, HF9.out, HA9.out, HR9.out⟩, by simp [intOf]; omega⟩
    · have hin' : ¬ (i : Int) < (n : Int) := by omega
      obtain rfl : i = n := by omega
      obtain ⟨gm, capm, hvm, _, _, _⟩ := Ri.set Fi.fresh (i := 0) (by have := HL0.out; omega)
      subst hvm
      have HFi := Lib.hid Fi
      have HRi := Lib.hid Ri
      have HAi := Lib.hid (show TlT oi wr p hs [] from let ⟨S, E, M⟩ := Ai; ⟨S, E, M.t⟩)
      clear Fi Ai Ri hi hin
      rw [hl] at HRi ⊢
      have HL := Lib.hid hl
      clear hl
      go_wp2_with fail
      go_loopw [8, 12] (fun vv jv wr => ∃ (j : Nat) (o' : Own) (wl : List Int), j ≤ m ∧ wl.length ≤ j ∧ jv = .int .i64 j ∧ LF w o' wr ∧ TlT o' wr p hs wl ∧ LRow o' wr 40 (.slice (some ⟨gm, 0, none⟩) i capm) hs ∧ LRow o' wr 41 vv wl) (fun _ jv _ => m - (intOf jv).toNat)
      case atStart => exact ⟨0, oi, [], by omega, by simp, rfl, HFi.out, HAi.out, HRi.out, LRow.nil _ _ 41⟩
      case round =>
        obtain ⟨j, oj, wl, hj, hwl, rfl, Fj, Aj, Rj, Wj⟩ := hrel
        by_cases hjm : j < m
        · have hjm' : (j : Int) < (m : Int) := by omega
          obtain ⟨b1, f1, ha1, hb1, hc1⟩ := (HR1.out.lf Fj).at_ hjm
          have HFj := Lib.hid Fj
          have HAj := Lib.hid Aj
          have HRj := Lib.hid Rj
          have HWj := Lib.hid Wj
          have HWL := Lib.hid hwl
          subst ha1
          clear Fj Aj Rj Wj hj hwl
          generalize q.getD j 0 = x at *
          obtain ⟨c, hcc, hc3⟩ := low_mod x i (by have := HL0.out; omega)
          have hcc' : (bits .and .i64 x 1023).tmod (i : Int) = (c : Int) := hcc
          have hci' : (c : Int) < (i : Int) := by omega
          have hcm := HRj.out.cell (j := c) (by have := HL.out; omega)
          have hlm : gm < wr.heap.size := by
            refine Nat.lt_of_not_le fun hb => ?_
            simp [World.cell?, Array.getElem?_eq_none hb] at hcm
          obtain ⟨b, hb⟩ := HAj.out.one (j := c) (by have := HL.out; omega)
          clear hcc hc3
          generalize hs.getD c 0 = y at *
          cases b with
          | true =>
            have HB := Lib.hid hb
            clear hb
            go_wp2_with fail
            go_at_call 77
            refine (tl_watched wr _ (by repeat (first | exact Fr.refl HFj.out.fresh | refine Fr.drew ?_ | refine Fr.alloc ?_ _)) HB.out).mono ?_
            rintro e w5 ⟨rfl, F5⟩
            have HF5 := Lib.hid F5
            clear F5
            go_wp2_with fail
            go_at_call 75
            refine (tl_yes wr _ (by repeat (first | exact HF5.out | refine Fr.drew ?_ | refine Fr.alloc ?_ _)) HB.out (by have := HWL.out; have := HL0.out; omega)).mono ?_
            rintro e w6 ⟨o6, rfl, F6, A6⟩
            have HF6 := Lib.hid (HFj.out.fr F6 (by omega))
            have HA6 := Lib.hid A6
            have HR6 := Lib.hid (HRj.out.keep F6 (.inr (by omega)))
            have HW6 := Lib.hid (HWj.out.keep F6 (.inr (by omega)))
            clear F6 A6
            go_wp2_with (first
              | (go_at_call 67; refine (num12 _ _).mono ?_; rintro e w' ⟨rfl, rfl⟩)
              | (go_at_call 77; refine (tl_watched w6 _ (by repeat (first | exact Fr.refl HF6.out.fresh | refine Fr.drew ?_ | refine Fr.alloc ?_ _)) HA6.out).mono ?_; rintro e w8 ⟨rfl, F8⟩; have HF8 := Lib.hid (HF6.out.fr F8 (by omega)); have HA8 := Lib.hid (HA6.out.tl.keep F8 (.inr (by omega))); have HR8 := Lib.hid (HR6.out.keep F8 (.inr (by omega))); have HW8 := Lib.hid (HW6.out.keep F8 (.inr (by omega))); clear F8)
              | (at_builtin; refine wpList_append_row _ rfl _ _ _ rfl Tryz.underlying38 (own := o6) (by first | exact HF8.out.fresh | exact (HF8.out.alloc _).fresh) 41 rfl (HW8.out.keep (lo := 0) (hi := 0) ((Fr.refl HF8.out.fresh).alloc _) (.inr (by omega))) rfl (RdS.one _ .i64 _ y (by simp)) (by have := HWL.out; have := HL0.out; omega) ?_; intro v9 w9 o9 F9 W9; have HF9 := Lib.hid ((HF8.out.alloc _).fr F9 (by omega)); have HW9 := Lib.hid W9; have HA9 := Lib.hid ((HA8.out.keep ((Fr.refl (lo := 0) (hi := 0) HF8.out.fresh).alloc _) (.inr (by omega))).keep F9 (.inl (by omega))); have HR9 := Lib.hid ((HR8.out.keep ((Fr.refl (lo := 0) (hi := 0) HF8.out.fresh).alloc _) (.inr (by omega))).keep F9 (.inl (by omega))); clear F9 W9))
            exact ⟨⟨j + 1, o9, wl ++ [y], by omega, by rw [List.length_append]; have := HWL.out; simp; omega, by go_num, HF9.out, HA9.out, HR9.out, HW9.out⟩, by simp [intOf]; omega⟩
          | false =>
            have HB := Lib.hid hb
            clear hb
            go_wp2_with fail
            go_at_call 77
            refine (tl_watched wr _ (by repeat (first | exact Fr.refl HFj.out.fresh | refine Fr.drew ?_ | refine Fr.alloc ?_ _)) HB.out).mono ?_
            rintro e w5 ⟨rfl, F5⟩
            have HF5 := Lib.hid F5
            clear F5
            go_wp2_with fail
            go_at_call 75
            refine (tl_no wr _ (by repeat (first | exact HF5.out | refine Fr.drew ?_ | refine Fr.alloc ?_ _)) HB.out).mono ?_
            rintro e w6 ⟨rfl, F6⟩
            have HF6 := Lib.hid F6
            clear F6
            go_wp2_with (first
              | (go_at_call 67; refine (num12 _ _).mono ?_; rintro e w' ⟨rfl, rfl⟩)
              | (go_at_call 77; refine (tl_watched wr _ (by repeat (first | exact HF6.out | refine Fr.drew ?_ | refine Fr.alloc ?_ _)) HB.out).mono ?_; rintro e w8 ⟨rfl, F8⟩; have HF8 := Lib.hid F8; clear F8))
            exact ⟨⟨j + 1, oj, wl, by omega, by have := HWL.out; omega, by go_num, HFj.out.fr HF8.out (by omega), HAj.out.keep HF8.out (.inr (by omega)), HRj.out.keep HF8.out (.inr (by omega)), HWj.out.keep HF8.out (.inr (by omega))⟩, by simp [intOf]; omega⟩
        · have hjm' : ¬ (j : Int) < (m : Int) := by omega
          obtain ⟨Aw, capw, hvw, _⟩ := Wj.rd
          subst hvw
          have HFj := Lib.hid Fj
          have HAj := Lib.hid Aj
          have HWj := Lib.hid Wj
          have HWL := Lib.hid (show wl.length ≤ 60 by have := HL0.out; omega)
          clear Fj Aj Rj Wj hj hjm hwl
          go_wp2_with fail
          go_at_call 79
          refine (tl_pending wr _ (by repeat (first | exact Fr.refl HFj.out.fresh | refine Fr.drew ?_ | refine Fr.alloc ?_ _)) HAj.out HWL.out).mono ?_
          rintro e w5 ⟨Ap, capp, rfl, F5, R5⟩
          have HF5 := Lib.hid F5
          have HS := Lib.hid (fun (w6 : World) (F : Fr 0 0 oj oj w5 w6) => sameInts_yes (ca := capp) (cb := capw) w6 F.fresh (R5.keep fun g hg => F.block g hg (.inr (Nat.zero_le _))) (show RdS w6 wr.heap.size .i64 Aw wl.length wl from by
            obtain ⟨A2, c2, e2, r2⟩ := HWj.out.rd
            cases e2
            exact r2.keep fun g hg => (HF5.out.trans F).block g hg (.inr (Nat.zero_le _))) F.size (HF5.out.trans F).size (by have := HWL.out; omega))
          clear F5 R5
          go_wp2_with fail
          go_at_call 78
          refine (HS.out _ (by repeat (first | exact Fr.refl HF5.out.fresh | refine Fr.drew ?_ | refine Fr.alloc ?_ _))).mono ?_
          rintro e w6 ⟨rfl, F6⟩
          have HF6 := Lib.hid (HFj.out.fr (HF5.out.trans F6) (by omega))
          have HA6 := Lib.hid (HAj.out.keep (HF5.out.trans F6) (.inr (by omega)))
          have HW6 := Lib.hid (HWj.out.keep (HF5.out.trans F6) (.inr (by omega)))
          have HWB := Lib.hid (show wl.length < 1099511627776 by have := HWL.out; omega)
          clear F6
          go_wp2_with fail
          go_loopw [15] (fun kv wr => ∃ (k : Nat) (o' : Own), k ≤ wl.length ∧ kv = .int .i64 k ∧ LF w o' wr ∧ TlT o' wr p hs (wl.drop k) ∧ LRow o' wr 41 (.slice Aw wl.length capw) wl) (fun kv _ => wl.length - (intOf kv).toNat)
          case atStart => exact ⟨0, oj, by omega, rfl, HF6.out, HA6.out, HW6.out⟩
          case round =>
            obtain ⟨k, ok, hk, rfl, Fk, Ak, Wk⟩ := hrel
            have HFk := Lib.hid Fk
            have HWk := Lib.hid Wk
            by_cases hkw : k < wl.length
            · have hkw' : (k : Int) < (wl.length : Int) := by omega
              have hkb : (k : Int) ≤ 60 := by have := HWL.out; omega
              have HD := Lib.hid (show wl.drop k = wl.getD k 0 :: wl.drop (k + 1) by
                rw [List.drop_eq_getElem_cons hkw]
                simp [List.getD, hkw])
              rw [HD.out] at Ak
              have HAk := Lib.hid Ak
              obtain ⟨b7, f7, ha7, hc7, hl7⟩ : ∃ b7 f7, Aw = some ⟨b7, f7, none⟩ ∧ (∀ (w7 : World) (o7 : Own), LRow o7 w7 41 (.slice Aw wl.length capw) wl → w7.cell? ⟨b7, f7 + k, none⟩ = some (.int .i64 (wl.getD k 0))) ∧ True := by
                obtain ⟨A2, c2, e2, r2⟩ := Wk.rd
                cases e2
                obtain ⟨b7, f7, h1, _, _⟩ := r2.at_ hkw
                refine ⟨b7, f7, h1, fun w7 o7 R7 => ?_, trivial⟩
                obtain ⟨A3, c3, e3, r3⟩ := R7.rd
                cases e3
                obtain ⟨b8, f8, h2, _, h3⟩ := r3.at_ hkw
                rw [h1] at h2
                cases h2
                exact h3
              subst ha7
              have HC7 := Lib.hid hc7
              clear Fk Ak Wk hk hkw hc7 hl7
              generalize hyk : wl.getD k 0 = y at *
              clear hyk
              go_wp2_with fail
              go_at_call 80
              refine (tl_take wr _ (by repeat (first | exact Fr.refl HFk.out.fresh | refine Fr.drew ?_ | refine Fr.alloc ?_ _)) HAk.out (by rw [List.length_drop]; have := HWL.out; omega)).mono ?_
              rintro e w8 ⟨o8, rfl, F8, A8⟩
              have HF8 := Lib.hid (HFk.out.fr F8 (by omega))
              have HA8 := Lib.hid A8
              have HW8 := Lib.hid (HWk.out.keep F8 (.inr (by omega)))
              have hc8 := HC7.out w8 o8 HW8.out
              have hl8 : b7 < w8.heap.size := by
                refine Nat.lt_of_not_le fun hb => ?_
                simp [World.cell?, Array.getElem?_eq_none hb] at hc8
              clear F8 A8
              go_wp2_with fail
              exact ⟨⟨k + 1, o8, by omega, by go_num, HF8.out, HA8.out, HW8.out⟩, by simp [intOf]; omega⟩
            · have hkw' : ¬ (k : Int) < (wl.length : Int) := by omega
              obtain rfl : k = wl.length := by omega
              rw [List.drop_length] at Ak
              have HAk := Lib.hid Ak
              clear Fk Ak Wk hk hkw
              go_wp2_with fail
              go_at_call 80
              refine (tl_take_no wr _ (by repeat (first | exact Fr.refl HFk.out.fresh | refine Fr.drew ?_ | refine Fr.alloc ?_ _)) HAk.out).mono ?_
              rintro e w8 ⟨rfl, F8⟩
              have HF8 := Lib.hid F8
              clear F8
              go_wp2_with (first
                | (go_at_call 67; refine (num12 _ _).mono ?_; rintro e w' ⟨rfl, rfl⟩)
                | (go_at_call 75; refine (tl_tell5 wr _ (by repeat (first | exact HF8.out | refine Fr.drew ?_ | refine Fr.alloc ?_ _)) HAk.out).mono ?_; rintro e w9 ⟨rfl, F9⟩; have HF9 := Lib.hid F9; clear F9)
                | (go_at_call 76; refine (tl_watch5 wr _ (by repeat (first | exact HF9.out | refine Fr.drew ?_ | refine Fr.alloc ?_ _)) HAk.out).mono ?_; rintro e w10 ⟨rfl, F10⟩; have HF10 := Lib.hid F10; clear F10))
              go_ret
              exact ⟨rfl, (HFk.out.fr HF10.out (by omega)).tob⟩
theorem tells_walk (n : Int) (a1 : Option Addr) (m c1 : Nat) (z1 : List Int) (w : World) (w0 : (Lit.int .i64 n).wf = true) (w1 : InSl .i64 w a1 m c1 z1) :
    Calls Tryz.prog 15 #[.int .i64 n, .slice a1 m c1] w fun e w' => e = .returned (.bool true) ∧ Below w.heap.size w w' := by
  by_cases h : 1 ≤ n ∧ n ≤ 20 ∧ m ≤ 60
  · obtain ⟨k, rfl⟩ := Int.eq_ofNat_of_zero_le (show 0 ≤ n by omega)
    exact tells_in k a1 m c1 _ w (by omega) (by omega) h.2.2 w1.rd.1
  · exact tells_out n a1 m c1 w (by omega) w1.len_le
end Go.Proofs.YtlpklloagaccoaaGreat
