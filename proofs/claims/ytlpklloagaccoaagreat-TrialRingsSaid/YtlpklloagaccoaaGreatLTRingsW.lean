/- The walk of TrialRings. No condition. -/
import Derived.Test.YtlpklloagaccoaaGreatLRing
import Derived.StillTailTactics
namespace Go.Proofs.YtlpklloagaccoaaGreat
open Go.RowKit
set_option linter.unusedVariables false

set_option maxRecDepth 100000 in
theorem trings_out (n chords held : Int) (cell : Bool) (w : World) (h : n < 1 ∨ 50 < n ∨ chords < 0 ∨ 50 < chords ∨ held < -1 ∨ n ≤ held) :
    Calls Tryz.prog 22 #[.int .i64 n, .int .i64 chords, .int .i64 held, .bool cell] w fun e w' => e = .returned (.bool true) ∧ Below w.heap.size w w' := by
  have HA := Lib.hid (alive14 w)
  have hn : n < 1 ∨ (¬ n < 1 ∧ 50 < n) ∨ (¬ n < 1 ∧ ¬ 50 < n ∧ chords < 0) ∨ (¬ n < 1 ∧ ¬ 50 < n ∧ ¬ chords < 0 ∧ 50 < chords) ∨ (¬ n < 1 ∧ ¬ 50 < n ∧ ¬ chords < 0 ∧ ¬ 50 < chords ∧ held < -1) ∨ (¬ n < 1 ∧ ¬ 50 < n ∧ ¬ chords < 0 ∧ ¬ 50 < chords ∧ ¬ held < -1 ∧ n ≤ held) := by omega
  clear h
  rcases hn with h0 | ⟨h0, h3⟩ | ⟨h0, h3, h4⟩ | ⟨h0, h3, h4, h5⟩ | ⟨h0, h3, h4, h5, h6⟩ | ⟨h0, h3, h4, h5, h6, h7⟩
  all_goals
    go_enter Tryz.func22, Tryz.ntmps22
    go_wp2_with fail
    go_at_call 84
    refine HA.out.mono ?_
    rintro e w1 ⟨rfl, hb⟩
    have HB := Lib.hid hb
    clear hb
    go_wp2_with fail
    go_ret
    exact ⟨rfl, HB.out⟩
set_option maxRecDepth 100000 in
set_option maxHeartbeats 8000000 in
theorem trings_in (n : Nat) (chords held : Int) (cell : Bool) (w : World) (hn1 : 1 ≤ n) (hn : n ≤ 50) (hc1 : 0 ≤ chords) (hc2 : chords ≤ 50) (hh1 : -1 ≤ held) (hh2 : held < n) :
    Calls Tryz.prog 22 #[.int .i64 (n : Nat), .int .i64 chords, .int .i64 held, .bool cell] w fun e w' => e = .returned (.bool true) ∧ Below w.heap.size w w' := by
  have HA := Lib.hid (alive14 w)
  have HN := Lib.hid (fun (o : Own) (w1 : World) (ho : Owned o w1) => show Calls Tryz.prog 27 #[.int .i64 40, .int .i64 0, .int .i64 1000] w1 (EngNew o w1 1 40 1000) from eng_new 1 40 1000 w1 ho (by omega) (by omega) (by omega) (by omega))
  have h0 : ¬ (n : Int) < 1 := by omega
  have h1 : ¬ 50 < (n : Int) := by omega
  have h2 : ¬ chords < 0 := by omega
  have h3 : ¬ 50 < chords := by omega
  have h4 : ¬ held < -1 := by omega
  have h5 : ¬ (n : Int) ≤ held := by omega
  have hdn : ((n : Int) == 0) = false := by simp; omega
  have hdn' : ¬ (n : Int) = 0 := by omega
  have HL0 := Lib.hid (And.intro hn1 (And.intro hn (And.intro hc1 (And.intro hc2 (And.intro hh1 hh2)))))
  clear hn1 hn hc1 hc2 hh1 hh2
  go_enter Tryz.func22, Tryz.ntmps22
  go_wp2_with fail
  go_at_call 84
  refine HA.out.mono ?_
  rintro e w1 ⟨rfl, hb⟩
  have HF1 := Lib.hid (LF.of_below hb)
  clear hb
  go_wp2_with fail
  go_at_call 27
  refine (HN.out _ _ HF1.out.fresh).mono ?_
  rintro e w2 ⟨p, o2, rfl, F2, E2⟩
  have HF2 := Lib.hid (HF1.out.fr F2 (by omega))
  have HA2 := Lib.hid (r2_first E2)
  clear F2 E2
  go_wp2_with fail
  go_loopw [11, 12] (fun vv iv wr => ∃ (i : Nat) (o' : Own), i ≤ n ∧ iv = .int .i64 i ∧ LF w o' wr ∧ R2Mk o' wr p i ∧ LRow o' wr 70 vv (hL 2 i)) (fun _ iv _ => n - (intOf iv).toNat)
  case atStart => exact ⟨0, o2, by omega, rfl, HF2.out, HA2.out, LRow.nil _ _ 70⟩
  case round =>
    obtain ⟨i, oi, hi, rfl, Fi, Ai, Ri⟩ := hrel
    have HFi := Lib.hid Fi
    have HRi := Lib.hid Ri
    have HAi := Lib.hid Ai
    clear Fi Ai Ri
    by_cases hin : i < n
    · have hin' : (i : Int) < (n : Int) := by omega
      have HI := Lib.hid (And.intro hin (show i < 50 by have := HL0.out; omega))
      clear hi hin
      go_wp2_with fail
      go_at_call 66
      refine (r2_make wr _ (by repeat (first | exact Fr.refl HFi.out.fresh | refine Fr.drew ?_ | refine Fr.alloc ?_ _)) HAi.out (by have := HI.out; omega)).mono ?_
      rintro e w5 ⟨o5, rfl, F5, A5⟩
      have HF5 := Lib.hid (HFi.out.fr F5 (by omega))
      have HA5 := Lib.hid A5
      have HR5 := Lib.hid (HRi.out.keep F5 (.inr (by omega)))
      clear F5 A5
      obtain ⟨a, ha⟩ : ∃ a, a = hI 2 i := ⟨_, rfl⟩
      have HAe := Lib.hid ha
      rw [← ha]
      clear ha
      go_wp2_with (at_builtin; refine wpList_append_row _ rfl _ _ _ rfl Tryz.underlying38 (own := o5) (by first | exact HF5.out.fresh | exact (HF5.out.alloc _).fresh) 70 rfl (HR5.out.keep (lo := 0) (hi := 0) ((Fr.refl HF5.out.fresh).alloc _) (.inr (by omega))) rfl (RdS.one _ .i64 _ a (by simp)) (by rw [hL_len]; have := HI.out; omega) ?_; intro v9 w9 o9 F9 R9; have HF9 := Lib.hid ((HF5.out.alloc _).fr F9 (by omega)); rw [HAe.out, ← hL_succ] at R9; have HR9 := Lib.hid R9; have HA9 := Lib.hid ((HA5.out.keep ((Fr.refl (lo := 0) (hi := 0) HF5.out.fresh).alloc _) (.inr (by omega))).keep F9 (.inl (by omega))); clear F9 R9)
      exact ⟨⟨i + 1, o9, by have := HI.out; omega, by go_num, HF9.out, HA9.out, HR9.out⟩, by have := HI.out; simp [intOf]; omega⟩
    · have hin' : ¬ (i : Int) < (n : Int) := by omega
      obtain rfl : i = n := by omega
      have HA0 := Lib.hid (HAi.out.at (E := fun j => (j + 1) % i))
      obtain ⟨Am, capm, hvm, _⟩ := HRi.out.rd
      rw [hL_len] at hvm
      subst hvm
      obtain ⟨gm, hgm, hgl, hc0⟩ := hL_at HRi.out (i := 0) (by have := HL0.out; omega)
      subst hgm
      clear hi hin hgl hc0
      go_wp2_with fail
      go_loopw [15] (fun jv wr => ∃ (j : Nat) (o' : Own), j ≤ i ∧ jv = .int .i64 j ∧ LF w o' wr ∧ R2At o' wr p i (fun j => (j + 1) % i) j ∧ LRow o' wr 70 (.slice (some ⟨gm, 0, none⟩) i capm) (hL 2 i)) (fun jv _ => i - (intOf jv).toNat)
      case atStart => exact ⟨0, oi, by omega, rfl, HFi.out, HA0.out, HRi.out⟩
      case round =>
        obtain ⟨j, oj, hj, rfl, Fj, Aj, Rj⟩ := hrel
        have HFj := Lib.hid Fj
        have HRj := Lib.hid Rj
        have HAj := Lib.hid Aj
        clear Fj Aj Rj
        by_cases hjn : j < i
        · have hjn' : (j : Int) < (i : Int) := by omega
          have hj0 : (0 : Int) ≤ (j : Int) := by omega
          have hi0 : ¬ i = 0 := by omega
          obtain ⟨c, hc⟩ : ∃ c, c = (j + 1) % i := ⟨_, rfl⟩
          have hci : c < i := by rw [hc]; exact Nat.mod_lt _ (by omega)
          have hci' : (c : Int) < (i : Int) := by omega
          have hc0 : (0 : Int) ≤ (c : Int) := by omega
          have hrem : ((j : Int) + 1).tmod (i : Int) = (c : Int) := by
            rw [hc]
            show (((j + 1 : Nat) : Int)).tmod ((i : Nat) : Int) = _
            exact (Int.ofNat_tmod (j + 1) i).symm
          have hj50 : (j : Int) < 50 := by have := HL0.out; omega
          have hw1 : IntKind.i64.wrap ((j : Int) + 1) = (j : Int) + 1 := by rw [IntKind.wrap_i64]; omega
          have hw2 : IntKind.i64.wrap (c : Int) = (c : Int) := by rw [IntKind.wrap_i64]; omega
          obtain ⟨g2, e2, hgl, hcj⟩ := hL_at HRj.out hjn
          cases e2
          obtain ⟨g2, e2, _, hcc⟩ := hL_at HRj.out hci
          cases e2
          have HSt := Lib.hid (fun (w10 : World) (F : Fr 0 0 oj oj wr w10) => r2_set0 (m := c) wr w10 F HAj.out hjn (by have := HL0.out; omega) hci hc.symm)
          have HI := Lib.hid (And.intro hjn (And.intro hci hc))
          clear hj hjn hci hc
          generalize hI 2 c = ac at *
          generalize haj : hI 2 j = aj at *
          have HAJ := Lib.hid haj
          clear haj
          go_wp2_with fail
          go_still_tail 13, (by kernel_rfl)
          change wpList _ _ _ _ _ wr.drew
          go_wp2_with fail
          go_at_call 68
          refine (HSt.out _ (by repeat (first | exact Fr.refl HFj.out.fresh | refine Fr.drew ?_ | refine Fr.alloc ?_ _))).mono ?_
          rintro e w5 ⟨o5, rfl, F5, A5⟩
          have HF5 := Lib.hid (HFj.out.fr F5 (by omega))
          have HA5 := Lib.hid A5
          have HR5 := Lib.hid (HRj.out.keep F5 (.inr (by omega)))
          clear F5 A5 hgl hcj hcc hrem hw1 hw2
          by_cases hch : (j : Int) < chords
          · obtain ⟨c2, hc2⟩ : ∃ c, c = (j * 7) % i := ⟨_, rfl⟩
            have hci2 : c2 < i := by rw [hc2]; exact Nat.mod_lt _ (by have := HI.out.1; omega)
            have hci2' : (c2 : Int) < (i : Int) := by omega
            have hc20 : (0 : Int) ≤ (c2 : Int) := by omega
            have hrem2 : ((j : Int) * 7).tmod (i : Int) = (c2 : Int) := by
              rw [hc2]
              show (((j * 7 : Nat) : Int)).tmod ((i : Nat) : Int) = _
              exact (Int.ofNat_tmod (j * 7) i).symm
            have hw3 : IntKind.i64.wrap ((j : Int) * 7) = (j : Int) * 7 := by rw [IntKind.wrap_i64]; omega
            have hw4 : IntKind.i64.wrap (c2 : Int) = (c2 : Int) := by rw [IntKind.wrap_i64]; omega
            obtain ⟨g2, e2, hgl, hcj⟩ := hL_at HR5.out HI.out.1
            cases e2
            obtain ⟨g2, e2, _, hcc⟩ := hL_at HR5.out hci2
            cases e2
            have HSt2 := Lib.hid (fun (w10 : World) (F : Fr 0 0 o5 o5 w5 w10) => r2_set1 (m := c2) w5 w10 F HA5.out HI.out.1 (by have := HL0.out; omega) hci2)
            rw [HAJ.out] at HSt2 hcj
            clear hci2 hc2
            generalize hI 2 c2 = ad at *
            go_wp2_with fail
            go_still_tail 13, (by kernel_rfl)
            change wpList _ _ _ _ _ w5.drew
            go_wp2_with fail
            go_at_call 68
            refine (HSt2.out _ (by repeat (first | exact Fr.refl HF5.out.fresh | refine Fr.drew ?_ | refine Fr.alloc ?_ _))).mono ?_
            rintro e w6 ⟨o6, rfl, F6, A6⟩
            have HF6 := Lib.hid (HF5.out.fr F6 (by omega))
            have HA6 := Lib.hid A6
            have HR6 := Lib.hid (HR5.out.keep F6 (.inr (by omega)))
            clear F6 A6 hgl hcj hcc hrem2 hw3 hw4
            go_wp2_with fail
            exact ⟨⟨j + 1, o6, by have := HI.out; omega, by go_num, HF6.out, HA6.out, HR6.out⟩, by have := HI.out; simp [intOf]; omega⟩
          · go_wp2_with fail
            exact ⟨⟨j + 1, o5, by have := HI.out; omega, by go_num, HF5.out, HA5.out.skip, HR5.out⟩, by have := HI.out; simp [intOf]; omega⟩
        · have hjn' : ¬ (j : Int) < (i : Int) := by omega
          obtain rfl : j = i := by omega
          obtain ⟨T, F, R, A, hring⟩ := HAj.out.ring
          have HRg := Lib.hid (And.intro A hring)
          clear A hring hj hjn
          have hn100 : j ≤ 100 := by have := HL0.out; omega
          have HNn := Lib.hid (And.intro hn100 (show 1 ≤ j by have := HL0.out; omega))
          clear hn100
          rcases (show held = -1 ∨ ∃ a : Nat, held = (a : Nat) ∧ a < j from by
            have := HL0.out
            by_cases e : held = -1
            · exact .inl e
            · exact .inr ⟨held.toNat, by omega, by omega⟩) with rfl | ⟨a, rfl, ha⟩
          · go_wp2_with fail
            go_at_call 85
            refine (rt_gone wr _ (by repeat (first | exact Fr.refl HFj.out.fresh | refine Fr.drew ?_ | refine Fr.alloc ?_ _)) HRg.out.1 HRg.out.2 (by omega) HNn.out.1 (fun _ => by omega)).mono ?_
            rintro e w5 ⟨A1, c1, A2, c2, o5, rfl, F5, R5, _, A5⟩
            have HF5 := Lib.hid (HFj.out.fr F5 (by omega))
            have HA5 := Lib.hid A5
            have HR5 := Lib.hid (HRj.out.keep F5 (.inr (by omega)))
            have HQ5 := Lib.hid R5
            clear F5 A5 R5
            rw [hL_len] at HQ5 ⊢
            have HSm := Lib.hid (fun (w6 : World) (F : Fr 0 0 o5 o5 w5 w6) => sameInts_n (ca := c1) (cb := capm) (m := j) (hL_len 2 j) w6 F.fresh (HQ5.out.keep fun g hg => F.block g hg (.inr (Nat.zero_le _))) (LRow.rdn (HR5.out.keep F (.inr (by omega)))) F.size (Nat.le_refl _) (by have := HNn.out; omega))
            have HAl := Lib.hid (fun (w6 : World) (F : Fr 0 0 o5 o5 w5 w6) => em_all w5 w6 F HA5.out)
            go_wp2_with (first
              | (go_at_call 78; refine (HSm.out _ (by repeat (first | exact Fr.refl HF5.out.fresh | refine Fr.drew ?_ | refine Fr.alloc ?_ _))).mono ?_; rintro e w6 ⟨rfl, F6⟩; have HF6 := Lib.hid F6; clear F6)
              | (go_at_call 74; refine (HAl.out _ (by repeat (first | exact HF6.out | refine Fr.drew ?_ | refine Fr.alloc ?_ _))).mono ?_; rintro e w7 ⟨A7, c7, rfl, F7⟩; have HF7 := Lib.hid (HF5.out.fr F7 (by omega)); clear F7))
            go_ret
            exact ⟨rfl, HF7.out.tob⟩
          · have hai : (a : Int) < (j : Int) := by omega
            have ha0 : (0 : Int) ≤ (a : Int) := by omega
            have HAa := Lib.hid ha
            obtain ⟨g2, e2, hgl, hca⟩ := hL_at HRj.out ha
            cases e2
            clear ha
            obtain ⟨x, hx⟩ : ∃ x, x = hI 2 a := ⟨_, rfl⟩
            have HXe := Lib.hid hx
            rw [← hx] at hca
            clear hx
            cases cell with
            | false =>
              have HRn := Lib.hid (fun (w5 : World) (F : Fr 0 0 oj oj wr w5) (b : Nat) (hb : b = w5.heap.size) => rt_held (a := a) (g := some ⟨b, 0, none⟩) (cc := 1) wr (w5.alloc (.cells #[.int .i64 x] 3)) (F.alloc _) HRg.out.1 HRg.out.2 (by omega) HNn.out.1 (fun _ => by omega) HAa.out (by rw [← HXe.out]; have := RdS.one w5 .i64 3 x hb; simpa using this) (fun b' off h => by cases h; rw [hb]; have := F.fresh _ (Nat.le_refl _); omega))
              go_wp2_with fail
              go_at_call 85
              refine (HRn.out _ (by repeat (first | exact Fr.refl HFj.out.fresh | refine Fr.drew ?_ | refine Fr.alloc ?_ _)) _ rfl).mono ?_
              rintro e w5 ⟨A1, c1, A2, c2, o5, rfl, F5, _, _, A5⟩
              have HF5 := Lib.hid (HFj.out.fr F5 (by omega))
              have HA5 := Lib.hid A5
              clear F5 A5 hgl hca
              go_wp2_with fail
              go_at_call 86
              refine (rt_sweep w5 _ (by repeat (first | exact Fr.refl HF5.out.fresh | refine Fr.drew ?_ | refine Fr.alloc ?_ _)) HA5.out HRg.out.2 (by omega) HNn.out.1 HNn.out.2 (fun _ => by omega)).mono ?_
              rintro e w6 ⟨A1, c1, A2, c2, o6, rfl, F6, _, _, A6⟩
              have HF6 := Lib.hid (HF5.out.fr F6 (by omega))
              have HA6 := Lib.hid A6
              clear F6 A6
              go_wp2_with (go_at_call 74; refine (em_all w6 _ (by repeat (first | exact Fr.refl HF6.out.fresh | refine Fr.drew ?_ | refine Fr.alloc ?_ _)) HA6.out).mono ?_; rintro e w7 ⟨A7, c7, rfl, F7⟩; have HF7 := Lib.hid (HF6.out.fr F7 (by omega)); clear F7)
              go_ret
              exact ⟨rfl, HF7.out.tob⟩
            | true =>
              go_wp2_with fail
              go_at_call 66
              refine (r2_box wr _ (by repeat (first | exact Fr.refl HFj.out.fresh | refine Fr.drew ?_ | refine Fr.alloc ?_ _)) HAj.out (by have := HL0.out; omega)).mono ?_
              rintro e w5 ⟨b, o5, rfl, F5, A5⟩
              have HF5 := Lib.hid (HFj.out.fr F5 (by omega))
              have HA5 := Lib.hid A5
              have HR5 := Lib.hid (HRj.out.keep F5 (.inr (by omega)))
              clear F5 A5 hgl hca
              obtain ⟨g2, e2, hgl, hca⟩ := hL_at HR5.out HAa.out
              cases e2
              rw [← HXe.out] at hca
              have HSt := Lib.hid (fun (w10 : World) (F : Fr 0 0 o5 o5 w5 w10) => bx_set (a := a) w5 w10 F HA5.out HAa.out (by have := HL0.out; omega))
              rw [← HXe.out] at HSt
              go_wp2_with fail
              go_at_call 68
              refine (HSt.out _ (by repeat (first | exact Fr.refl HF5.out.fresh | refine Fr.drew ?_ | refine Fr.alloc ?_ _))).mono ?_
              rintro e w6 ⟨o6, rfl, F6, A6⟩
              have HF6 := Lib.hid (HF5.out.fr F6 (by omega))
              have HA6 := Lib.hid A6
              clear F6 A6 hgl hca
              have HRn := Lib.hid (fun (w7 : World) (F : Fr 0 0 o6 o6 w6 w7) (q : Nat) (hq : q = w7.heap.size) => by_run (g := some ⟨q, 0, none⟩) (cc := 1) w6 (w7.alloc (.cells #[.int .i64 b] 3)) (F.alloc _) HA6.out (by have := RdS.one w7 .i64 3 b hq; simpa using this) (fun b' off h => by cases h; rw [hq]; have := F.fresh _ (Nat.le_refl _); omega))
              go_wp2_with fail
              go_at_call 85
              refine (HRn.out _ (by repeat (first | exact Fr.refl HF6.out.fresh | refine Fr.drew ?_ | refine Fr.alloc ?_ _)) _ rfl).mono ?_
              rintro e w7 ⟨A1, c1, A2, c2, o7, rfl, F7, _, _, A7⟩
              have HF7 := Lib.hid (HF6.out.fr F7 (by omega))
              have HA7 := Lib.hid A7
              clear F7 A7
              go_wp2_with fail
              go_at_call 86
              refine (by_sweep w7 _ (by repeat (first | exact Fr.refl HF7.out.fresh | refine Fr.drew ?_ | refine Fr.alloc ?_ _)) HA7.out).mono ?_
              rintro e w8 ⟨f8, A1, c1, A2, c2, o8, rfl, F8, _, _, A8⟩
              have HF8 := Lib.hid (HF7.out.fr F8 (by omega))
              have HA8 := Lib.hid A8
              clear F8 A8
              go_wp2_with (go_at_call 74; refine (em_all w8 _ (by repeat (first | exact Fr.refl HF8.out.fresh | refine Fr.drew ?_ | refine Fr.alloc ?_ _)) HA8.out).mono ?_; rintro e w9 ⟨A9, c9, rfl, F9⟩; have HF9 := Lib.hid (HF8.out.fr F9 (by omega)); clear F9)
              go_ret
              exact ⟨rfl, HF9.out.tob⟩
theorem trings_walk (n chords held : Int) (cell : Bool) (w : World) : Calls Tryz.prog 22 #[.int .i64 n, .int .i64 chords, .int .i64 held, .bool cell] w fun e w' => e = .returned (.bool true) ∧ Below w.heap.size w w' := by
  by_cases h : n < 1 ∨ 50 < n ∨ chords < 0 ∨ 50 < chords ∨ held < -1 ∨ n ≤ held
  · exact trings_out n chords held cell w h
  · obtain ⟨k, rfl⟩ := Int.eq_ofNat_of_zero_le (show 0 ≤ n by omega)
    exact trings_in k chords held cell w (by omega) (by omega) (by omega) (by omega) (by omega) (by omega)
end Go.Proofs.YtlpklloagaccoaaGreat
