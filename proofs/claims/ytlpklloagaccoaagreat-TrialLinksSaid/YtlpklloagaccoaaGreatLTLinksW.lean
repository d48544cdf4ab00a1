/- The walk of TrialLinks. No condition. -/
import Derived.Test.YtlpklloagaccoaaGreatLLinks
import Derived.StillTailTactics
namespace Go.Proofs.YtlpklloagaccoaaGreat
open Go.RowKit
set_option linter.unusedVariables false

set_option maxRecDepth 100000 in
theorem tlinks_out (n m held : Int) (w : World) (h : n < 1 ∨ 20 < n ∨ m < 1 ∨ 20 < m ∨ held < 0 ∨ 2 < held) :
    Calls Tryz.prog 20 #[.int .i64 n, .int .i64 m, .int .i64 held] w fun e w' => e = .returned (.bool true) ∧ Below w.heap.size w w' := by
  have HA := Lib.hid (alive14 w)
  have hn : n < 1 ∨ (¬ n < 1 ∧ 20 < n) ∨ (¬ n < 1 ∧ ¬ 20 < n ∧ m < 1) ∨ (¬ n < 1 ∧ ¬ 20 < n ∧ ¬ m < 1 ∧ 20 < m) ∨ (¬ n < 1 ∧ ¬ 20 < n ∧ ¬ m < 1 ∧ ¬ 20 < m ∧ held < 0) ∨ (¬ n < 1 ∧ ¬ 20 < n ∧ ¬ m < 1 ∧ ¬ 20 < m ∧ ¬ held < 0 ∧ 2 < held) := by omega
  clear h
  rcases hn with h0 | ⟨h0, h3⟩ | ⟨h0, h3, h4⟩ | ⟨h0, h3, h4, h5⟩ | ⟨h0, h3, h4, h5, h6⟩ | ⟨h0, h3, h4, h5, h6, h7⟩
  all_goals
    go_enter Tryz.func20, Tryz.ntmps20
    go_wp2_with fail
    go_at_call 84
    refine HA.out.mono ?_
    rintro e w1 ⟨rfl, hb⟩
    have HB := Lib.hid hb
    clear hb
    go_wp2_with fail
    go_ret
    exact ⟨rfl, HB.out⟩
set_option maxRecDepth 100000 in
set_option maxHeartbeats 8000000 in
theorem tlinks_in (n m : Nat) (held : Int) (w : World) (hn1 : 1 ≤ n) (hn : n ≤ 20) (hm1 : 1 ≤ m) (hm : m ≤ 20) (hh : held = 0 ∨ held = 1 ∨ held = 2) :
    Calls Tryz.prog 20 #[.int .i64 (n : Nat), .int .i64 (m : Nat), .int .i64 held] w fun e w' => e = .returned (.bool true) ∧ Below w.heap.size w w' := by
  have HA := Lib.hid (alive14 w)
  have HN := Lib.hid (fun (o : Own) (w1 : World) (ho : Owned o w1) => show Calls Tryz.prog 27 #[.int .i64 40, .int .i64 0, .int .i64 1000] w1 (EngNew o w1 1 40 1000) from eng_new 1 40 1000 w1 ho (by omega) (by omega) (by omega) (by omega))
  have h0 : ¬ (n : Int) < 1 := by omega
  have h1 : ¬ 20 < (n : Int) := by omega
  have h2 : ¬ (m : Int) < 1 := by omega
  have h3 : ¬ 20 < (m : Int) := by omega
  have h4 : ¬ held < 0 := by omega
  have h5 : ¬ 2 < held := by omega
  have hdn : ((n : Int) == 0) = false := by simp; omega
  have hdn' : ¬ (n : Int) = 0 := by omega
  have hdm : ((m : Int) == 0) = false := by simp; omega
  have hdm' : ¬ (m : Int) = 0 := by omega
  obtain ⟨N, hN⟩ : ∃ N, N = n + m := ⟨_, rfl⟩
  have HNm := Lib.hid hN
  have HH := Lib.hid hh
  have HL0 := Lib.hid (And.intro hn1 (And.intro hn (And.intro hm1 hm)))
  clear hn1 hn hm1 hm hN hh
  go_enter Tryz.func20, Tryz.ntmps20
  go_wp2_with fail
  go_at_call 84
  refine HA.out.mono ?_
  rintro e w1 ⟨rfl, hb⟩
  have HF1 := Lib.hid (LF.of_below hb)
  clear hb
  go_wp2_with fail
  go_at_call 27
  refine (HN.out _ _ HF1.out.fresh).mono ?_
  rintro e w2 ⟨p, o2, rfl, F2, E2⟩
  have HF2 := Lib.hid (HF1.out.fr F2 (by omega))
  have HA2 := Lib.hid (r2_first E2)
  clear F2 E2
  go_wp2_with fail
  go_loopw [9, 10] (fun vv iv wr => ∃ (i : Nat) (o' : Own), i ≤ N ∧ iv = .int .i64 i ∧ LF w o' wr ∧ R2Mk o' wr p i ∧ LRow o' wr 70 vv (hL 2 i)) (fun _ iv _ => N - (intOf iv).toNat)
  case atStart => exact ⟨0, o2, by omega, rfl, HF2.out, HA2.out, LRow.nil _ _ 70⟩
  case round =>
    obtain ⟨i, oi, hi, rfl, Fi, Ai, Ri⟩ := hrel
    have HFi := Lib.hid Fi
    have HRi := Lib.hid Ri
    have HAi := Lib.hid Ai
    clear Fi Ai Ri
    by_cases hin : i < N
    · have hin' : (i : Int) < (n : Int) + (m : Int) := by have := HNm.out; omega
      have HI := Lib.hid (And.intro hin (show i < 50 by have := HL0.out; have := HNm.out; omega))
      clear hi hin
      go_wp2_with fail
      go_at_call 66
      refine (r2_make wr _ (by repeat (first | exact Fr.refl HFi.out.fresh | refine Fr.drew ?_ | refine Fr.alloc ?_ _)) HAi.out (by have := HI.out; omega)).mono ?_
      rintro e w5 ⟨o5, rfl, F5, A5⟩
      have HF5 := Lib.hid (HFi.out.fr F5 (by omega))
      have HA5 := Lib.hid A5
      have HR5 := Lib.hid (HRi.out.keep F5 (.inr (by omega)))
      clear F5 A5
      obtain ⟨a, ha⟩ : ∃ a, a = hI 2 i := ⟨_, rfl⟩
      have HAe := Lib.hid ha
      rw [← ha]
      clear ha
      go_wp2_with (at_builtin; refine wpList_append_row _ rfl _ _ _ rfl Tryz.underlying38 (own := o5) (by first | exact HF5.out.fresh | exact (HF5.out.alloc _).fresh) 70 rfl (HR5.out.keep (lo := 0) (hi := 0) ((Fr.refl HF5.out.fresh).alloc _) (.inr (by omega))) rfl (RdS.one _ .i64 _ a (by simp)) (by rw [hL_len]; have := HI.out; omega) ?_; intro v9 w9 o9 F9 R9; have HF9 := Lib.hid ((HF5.out.alloc _).fr F9 (by omega)); rw [HAe.out, ← hL_succ] at R9; have HR9 := Lib.hid R9; have HA9 := Lib.hid ((HA5.out.keep ((Fr.refl (lo := 0) (hi := 0) HF5.out.fresh).alloc _) (.inr (by omega))).keep F9 (.inl (by omega))); clear F9 R9)
      exact ⟨⟨i + 1, o9, by have := HI.out; omega, by go_num, HF9.out, HA9.out, HR9.out⟩, by have := HI.out; simp [intOf]; omega⟩
    · have hNn := HNm.out
      have hin' : ¬ (i : Int) < (n : Int) + (m : Int) := by omega
      obtain rfl : i = N := by omega
      clear hNn
      have HA0 := Lib.hid (HAi.out.lk HNm.out)
      obtain ⟨Am, capm, hvm, _⟩ := HRi.out.rd
      rw [hL_len] at hvm
      subst hvm
      obtain ⟨gm, hgm, hgl, hc0⟩ := hL_at HRi.out (i := 0) (by have := HL0.out; have := HNm.out; omega)
      subst hgm
      have hiN : (i : Int) = (n : Int) + (m : Int) := by have := HNm.out; omega
      have HiN := Lib.hid hiN
      clear hi hin hgl hc0 hiN
      go_wp2_with fail
      go_loopw [13] (fun jv wr => ∃ (j : Nat) (o' : Own), j ≤ n ∧ jv = .int .i64 j ∧ LF w o' wr ∧ LkAt o' wr p n m j ∧ LRow o' wr 70 (.slice (some ⟨gm, 0, none⟩) i capm) (hL 2 i)) (fun jv _ => n - (intOf jv).toNat)
      case atStart => exact ⟨0, oi, by omega, rfl, HFi.out, HA0.out, HRi.out⟩
      case round =>
        obtain ⟨j, oj, hj, rfl, Fj, Aj, Rj⟩ := hrel
        have HFj := Lib.hid Fj
        have HRj := Lib.hid Rj
        have HAj := Lib.hid Aj
        clear Fj Aj Rj
        by_cases hjn : j < n
        · have hjn' : (j : Int) < (n : Int) := by omega
          have hj0 : (0 : Int) ≤ (j : Int) := by omega
          have hn0 : ¬ n = 0 := by omega
          have hji : (j : Int) < (i : Int) := by have := HiN.out; omega
          obtain ⟨c, hc⟩ : ∃ c, c = (j + 1) % n := ⟨_, rfl⟩
          have hci : c < n := by rw [hc]; exact Nat.mod_lt _ (by omega)
          have hci' : (c : Int) < (i : Int) := by have := HiN.out; omega
          have hc0 : (0 : Int) ≤ (c : Int) := by omega
          have hrem : ((j : Int) + 1).tmod (n : Int) = (c : Int) := by
            rw [hc]
            show (((j + 1 : Nat) : Int)).tmod ((n : Nat) : Int) = _
            exact (Int.ofNat_tmod (j + 1) n).symm
          have hj50 : (j : Int) < 50 := by have := HL0.out; omega
          have hw1 : IntKind.i64.wrap ((j : Int) + 1) = (j : Int) + 1 := by rw [IntKind.wrap_i64]; omega
          have hw2 : IntKind.i64.wrap (c : Int) = (c : Int) := by rw [IntKind.wrap_i64]; omega
          obtain ⟨g2, e2, hgl, hcj⟩ := hL_at HRj.out (i := j) (by omega)
          cases e2
          obtain ⟨g2, e2, _, hcc⟩ := hL_at HRj.out (i := c) (by omega)
          cases e2
          have HSt := Lib.hid (fun (w10 : World) (F : Fr 0 0 oj oj wr w10) => lk_set (t := c) wr w10 F HAj.out (by omega) (by have := HL0.out; omega) (by unfold lkE; rw [if_pos hjn]; exact hc.symm))
          have HI := Lib.hid (And.intro hjn hci)
          clear hj hjn hci hc
          generalize hI 2 c = ac at *
          generalize hI 2 j = aj at *
          go_wp2_with fail
          go_still_tail 13, (by kernel_rfl)
          change wpList _ _ _ _ _ wr.drew
          go_wp2_with fail
          go_at_call 68
          refine (HSt.out _ (by repeat (first | exact Fr.refl HFj.out.fresh | refine Fr.drew ?_ | refine Fr.alloc ?_ _))).mono ?_
          rintro e w5 ⟨o5, rfl, F5, A5⟩
          have HF5 := Lib.hid (HFj.out.fr F5 (by omega))
          have HA5 := Lib.hid A5
          have HR5 := Lib.hid (HRj.out.keep F5 (.inr (by omega)))
          clear F5 A5 hgl hcj hcc hrem hw1 hw2
          go_wp2_with fail
          exact ⟨⟨j + 1, o5, by have := HI.out; omega, by go_num, HF5.out, HA5.out, HR5.out⟩, by have := HI.out; simp [intOf]; omega⟩
        · have hjn' : ¬ (j : Int) < (n : Int) := by omega
          obtain rfl : j = n := by omega
          clear hj hjn
          go_wp2_with fail
          go_loopw [14] (fun kv wr => ∃ (k : Nat) (o' : Own), k ≤ m ∧ kv = .int .i64 k ∧ LF w o' wr ∧ LkAt o' wr p j m (j + k) ∧ LRow o' wr 70 (.slice (some ⟨gm, 0, none⟩) i capm) (hL 2 i)) (fun kv _ => m - (intOf kv).toNat)
          case atStart => exact ⟨0, oj, by omega, rfl, HFj.out, HAj.out, HRj.out⟩
          case round =>
            obtain ⟨k, ok, hk, rfl, Fk, Ak, Rk⟩ := hrel
            have HFk := Lib.hid Fk
            have HRk := Lib.hid Rk
            have HAk := Lib.hid Ak
            clear Fk Ak Rk
            by_cases hkm : k < m
            · have hkm' : (k : Int) < (m : Int) := by omega
              have hk0 : (0 : Int) ≤ (k : Int) := by omega
              have hm0 : ¬ m = 0 := by omega
              obtain ⟨c, hc⟩ : ∃ c, c = (k + 1) % m := ⟨_, rfl⟩
              have hci : c < m := by rw [hc]; exact Nat.mod_lt _ (by omega)
              have hrem : ((k : Int) + 1).tmod (m : Int) = (c : Int) := by
                rw [hc]
                show (((k + 1 : Nat) : Int)).tmod ((m : Nat) : Int) = _
                exact (Int.ofNat_tmod (k + 1) m).symm
              have hk50 : (k : Int) < 50 := by have := HL0.out; omega
              have hw1 : IntKind.i64.wrap ((k : Int) + 1) = (k : Int) + 1 := by rw [IntKind.wrap_i64]; omega
              have hw2 : IntKind.i64.wrap (c : Int) = (c : Int) := by rw [IntKind.wrap_i64]; omega
              obtain ⟨a1, ha1⟩ : ∃ a, a = j + k := ⟨_, rfl⟩
              obtain ⟨b1, hb1⟩ : ∃ a, a = j + c := ⟨_, rfl⟩
              have hs1 : (j : Int) + (k : Int) = (a1 : Int) := by omega
              have hs2 : (j : Int) + (c : Int) = (b1 : Int) := by omega
              have hw3 : IntKind.i64.wrap (a1 : Int) = (a1 : Int) := by have := HL0.out; rw [IntKind.wrap_i64]; omega
              have hw4 : IntKind.i64.wrap (b1 : Int) = (b1 : Int) := by have := HL0.out; rw [IntKind.wrap_i64]; omega
              have ha0 : (0 : Int) ≤ (a1 : Int) := by omega
              have hb0 : (0 : Int) ≤ (b1 : Int) := by omega
              have hai : (a1 : Int) < (i : Int) := by have := HiN.out; omega
              have hbi : (b1 : Int) < (i : Int) := by have := HiN.out; omega
              obtain ⟨g2, e2, hgl, hcj⟩ := hL_at HRk.out (i := a1) (by omega)
              cases e2
              obtain ⟨g2, e2, _, hcc⟩ := hL_at HRk.out (i := b1) (by omega)
              cases e2
              have hak := HAk.out
              rw [← ha1] at hak
              have HSt := Lib.hid (fun (w10 : World) (F : Fr 0 0 ok ok wr w10) => lk_set (t := b1) wr w10 F hak (by omega) (by have := HL0.out; omega) (by unfold lkE; rw [if_neg (by omega), show a1 - j + 1 = k + 1 by omega, hb1, hc]))
              have HI := Lib.hid (And.intro hkm (And.intro hci ha1))
              clear hk hkm hci hc ha1 hb1 hak
              generalize hI 2 a1 = aj at *
              generalize hI 2 b1 = ac at *
              go_wp2_with fail
              go_still_tail 17, (by kernel_rfl)
              change wpList _ _ _ _ _ wr.drew
              go_wp2_with fail
              go_at_call 68
              refine (HSt.out _ (by repeat (first | exact Fr.refl HFk.out.fresh | refine Fr.drew ?_ | refine Fr.alloc ?_ _))).mono ?_
              rintro e w5 ⟨o5, rfl, F5, A5⟩
              have HF5 := Lib.hid (HFk.out.fr F5 (by omega))
              have HA5 := Lib.hid A5
              have HR5 := Lib.hid (HRk.out.keep F5 (.inr (by omega)))
              clear F5 A5 hgl hcj hcc hrem hw1 hw2 hs1 hs2 hw3 hw4
              go_wp2_with fail
              exact ⟨⟨k + 1, o5, by have := HI.out; omega, by go_num, HF5.out, by have h := HA5.out; rw [HI.out.2.2] at h; exact h, HR5.out⟩, by have := HI.out; simp [intOf]; omega⟩
            · have hkm' : ¬ (k : Int) < (m : Int) := by omega
              obtain rfl : k = m := by omega
              clear hk hkm
              have hj1 := HL0.out
              have hji : (j : Int) < (i : Int) := by have := HiN.out; omega
              have hj0 : (0 : Int) ≤ (j : Int) := by omega
              have hi0 : (0 : Int) < (i : Int) := by omega
              have hi0n : 0 < i := by omega
              clear hj1
              obtain ⟨g2, e2, hgl, hc0⟩ := hL_at HRk.out (i := 0) (by omega)
              cases e2
              obtain ⟨g2, e2, _, hcn⟩ := hL_at HRk.out (i := j) (by omega)
              cases e2
              obtain ⟨x0, hx0⟩ : ∃ x, x = hI 2 0 := ⟨_, rfl⟩
              obtain ⟨xn, hxn⟩ : ∃ x, x = hI 2 j := ⟨_, rfl⟩
              have HX := Lib.hid (And.intro hx0 hxn)
              rw [← hx0] at hc0
              rw [← hxn] at hcn
              have HSt := Lib.hid (fun (w10 : World) (F : Fr 0 0 ok ok wr w10) => lk_link wr w10 F HAk.out (by have := HL0.out; omega) (by have := HL0.out; omega) (by have := HL0.out; omega))
              rw [← hx0, ← hxn] at HSt
              clear hx0 hxn
              go_wp2_with fail
              go_still_tail 9, (by kernel_rfl)
              change wpList _ _ _ _ _ wr.drew
              go_wp2_with fail
              go_at_call 68
              refine (HSt.out _ (by repeat (first | exact Fr.refl HFk.out.fresh | refine Fr.drew ?_ | refine Fr.alloc ?_ _))).mono ?_
              rintro e w5 ⟨o5, rfl, F5, A5⟩
              have HF5 := Lib.hid (HFk.out.fr F5 (by omega))
              have HA5 := Lib.hid A5
              have HR5 := Lib.hid (HRk.out.keep F5 (.inr (by omega)))
              clear F5 A5 hgl hc0 hcn
              obtain ⟨g2, e2, hgl, hc0⟩ := hL_at HR5.out (i := 0) (by omega)
              cases e2
              obtain ⟨g2, e2, _, hcn⟩ := hL_at HR5.out (i := j) (by omega)
              cases e2
              rw [← HX.out.1] at hc0
              rw [← HX.out.2] at hcn
              have hcap : (i : Int) ≤ (capm : Int) := by have := HR5.out.capn; omega
              have hjc : (j : Int) ≤ (capm : Int) := by omega
              have hsN : (j : Int) + (k : Int) = (i : Int) := HiN.out.symm
              have hsM : (i : Int) - (j : Int) = (k : Int) := by omega
              have hi50 : (i : Int) ≤ 50 := by have := HL0.out; omega
              have hi00 : (0 : Int) ≤ (i : Int) := by omega
              have h40 : j + k ≤ 40 := by have := HL0.out; omega
              have H40 := Lib.hid h40
              clear h40
              rcases HH.out with rfl | rfl | rfl
              · have HRn := Lib.hid (fun (w6 : World) (F : Fr 0 0 o5 o5 w5 w6) => ll_run0 w5 w6 F HA5.out H40.out)
                rw [← HNm.out] at HRn
                go_wp2_with fail
                go_at_call 85
                refine (HRn.out _ (by repeat (first | exact Fr.refl HF5.out.fresh | refine Fr.drew ?_ | refine Fr.alloc ?_ _))).mono ?_
                rintro e w6 ⟨A1, c1, A2, c2, o6, rfl, F6, R6, _, A6⟩
                have HF6 := Lib.hid (HF5.out.fr F6 (by omega))
                have HA6 := Lib.hid A6
                have HR6 := Lib.hid (HR5.out.keep F6 (.inr (by omega)))
                have HQ6 := Lib.hid R6
                clear F6 A6 R6 hgl hc0 hcn
                rw [hL_len] at HQ6 ⊢
                have HSm := Lib.hid (fun (w7 : World) (F : Fr 0 0 o6 o6 w6 w7) => sameInts_n (ca := c1) (cb := capm) (m := i) (hL_len 2 i) w7 F.fresh (HQ6.out.keep fun g hg => F.block g hg (.inr (Nat.zero_le _))) (LRow.rdn (HR6.out.keep F (.inr (by omega)))) F.size (Nat.le_refl _) (by have := HNm.out; have := HL0.out; omega))
                have HAl := Lib.hid (fun (w7 : World) (F : Fr 0 0 o6 o6 w6 w7) => nm_all w6 w7 F HA6.out)
                go_wp2_with (first
                  | (go_at_call 78; refine (HSm.out _ (by repeat (first | exact Fr.refl HF6.out.fresh | refine Fr.drew ?_ | refine Fr.alloc ?_ _))).mono ?_; rintro e w7 ⟨rfl, F7⟩; have HF7 := Lib.hid F7; clear F7)
                  | (go_at_call 74; refine (HAl.out _ (by repeat (first | exact HF7.out | refine Fr.drew ?_ | refine Fr.alloc ?_ _))).mono ?_; rintro e w8 ⟨A8, c8, rfl, F8⟩; have HF8 := Lib.hid (HF6.out.fr F8 (by omega)); clear F8))
                go_ret
                exact ⟨rfl, HF8.out.tob⟩
              · have HRn := Lib.hid (fun (w6 : World) (F : Fr 0 0 o5 o5 w5 w6) (b : Nat) (hb : b = w6.heap.size) => ll_run1 (g := some ⟨b, 0, none⟩) (cc := 1) w5 (w6.alloc (.cells #[.int .i64 x0] 3)) (F.alloc _) HA5.out H40.out (by have := HL0.out; omega) (by have := HL0.out; omega) (by rw [← HX.out.1]; have := RdS.one w6 .i64 3 x0 hb; simpa using this) (fun b' off h => by cases h; rw [hb]; have := F.fresh _ (Nat.le_refl _); omega))
                rw [← HNm.out] at HRn
                go_wp2_with fail
                go_at_call 85
                refine (HRn.out _ (by repeat (first | exact Fr.refl HF5.out.fresh | refine Fr.drew ?_ | refine Fr.alloc ?_ _)) _ rfl).mono ?_
                rintro e w6 ⟨A1, c1, A2, c2, o6, rfl, F6, R6, _, A6⟩
                have HF6 := Lib.hid (HF5.out.fr F6 (by omega))
                have HA6 := Lib.hid A6
                have HQ6 := Lib.hid R6
                clear F6 A6 R6 hgl hc0 hcn
                have HSm := Lib.hid (fun (w7 : World) (F : Fr 0 0 o6 o6 w6 w7) => sameInts_n (xs := []) (ca := c1) (cb := capm) (m := 0) rfl w7 F.fresh (HQ6.out.keep fun g hg => F.block g hg (.inr (Nat.zero_le _))) (show RdS w7 w7.heap.size .i64 (some ⟨gm, 0, none⟩) 0 [] from ⟨rfl, fun h => absurd h (Nat.lt_irrefl 0)⟩) F.size (Nat.le_refl _) (by omega))
                have HAl := Lib.hid (fun (w7 : World) (F : Fr 0 0 o6 o6 w6 w7) => nm_all w6 w7 F HA6.out)
                go_wp2_with (first
                  | (go_at_call 78; refine (HSm.out _ (by repeat (first | exact Fr.refl HF6.out.fresh | refine Fr.drew ?_ | refine Fr.alloc ?_ _))).mono ?_; rintro e w7 ⟨rfl, F7⟩; have HF7 := Lib.hid F7; clear F7)
                  | (go_at_call 74; refine (HAl.out _ (by repeat (first | exact HF7.out | refine Fr.drew ?_ | refine Fr.alloc ?_ _))).mono ?_; rintro e w8 ⟨A8, c8, rfl, F8⟩; have HF8 := Lib.hid (HF6.out.fr F8 (by omega)); clear F8))
                go_ret
                exact ⟨rfl, HF8.out.tob⟩
              · have HRn := Lib.hid (fun (w6 : World) (F : Fr 0 0 o5 o5 w5 w6) (b : Nat) (hb : b = w6.heap.size) => ll_run2 (g := some ⟨b, 0, none⟩) (cc := 1) w5 (w6.alloc (.cells #[.int .i64 xn] 3)) (F.alloc _) HA5.out H40.out (by have := HL0.out; omega) (by have := HL0.out; omega) (by rw [← HX.out.2]; have := RdS.one w6 .i64 3 xn hb; simpa using this) (fun b' off h => by cases h; rw [hb]; have := F.fresh _ (Nat.le_refl _); omega))
                go_wp2_with fail
                go_at_call 85
                refine (HRn.out _ (by repeat (first | exact Fr.refl HF5.out.fresh | refine Fr.drew ?_ | refine Fr.alloc ?_ _)) _ rfl).mono ?_
                rintro e w6 ⟨A1, c1, A2, c2, o6, rfl, F6, R6, _, A6⟩
                have HF6 := Lib.hid (HF5.out.fr F6 (by omega))
                have HA6 := Lib.hid A6
                have HR6 := Lib.hid (HR5.out.keep F6 (.inr (by omega)))
                have HQ6 := Lib.hid R6
                clear F6 A6 R6 hgl hc0 hcn
                rw [hL_len] at HQ6 ⊢
                have HSm := Lib.hid (fun (w7 : World) (F : Fr 0 0 o6 o6 w6 w7) => sameInts_n (ca := c1) (cb := capm) (m := j) (hL_len 2 j) w7 F.fresh (HQ6.out.keep fun g hg => F.block g hg (.inr (Nat.zero_le _))) (by have h := LRow.rdn ((HR6.out.keep F (.inr (by omega))).take (m := j) (by rw [hL_len]; omega)); rw [hL_take (by omega)] at h; exact h) F.size (Nat.le_refl _) (by have := HL0.out; omega))
                have HAl := Lib.hid (fun (w7 : World) (F : Fr 0 0 o6 o6 w6 w7) => nm_all w6 w7 F HA6.out)
                go_wp2_with (first
                  | (go_at_call 78; refine (HSm.out _ (by repeat (first | exact Fr.refl HF6.out.fresh | refine Fr.drew ?_ | refine Fr.alloc ?_ _))).mono ?_; rintro e w7 ⟨rfl, F7⟩; have HF7 := Lib.hid F7; clear F7)
                  | (go_at_call 74; refine (HAl.out _ (by repeat (first | exact HF7.out | refine Fr.drew ?_ | refine Fr.alloc ?_ _))).mono ?_; rintro e w8 ⟨A8, c8, rfl, F8⟩; have HF8 := Lib.hid (HF6.out.fr F8 (by omega)); clear F8))
                go_ret
                exact ⟨rfl, HF8.out.tob⟩
theorem tlinks_walk (n m held : Int) (w : World) : Calls Tryz.prog 20 #[.int .i64 n, .int .i64 m, .int .i64 held] w fun e w' => e = .returned (.bool true) ∧ Below w.heap.size w w' := by
  by_cases h : n < 1 ∨ 20 < n ∨ m < 1 ∨ 20 < m ∨ held < 0 ∨ 2 < held
  · exact tlinks_out n m held w h
  · obtain ⟨a, rfl⟩ := Int.eq_ofNat_of_zero_le (show 0 ≤ n by omega)
    obtain ⟨b, rfl⟩ := Int.eq_ofNat_of_zero_le (show 0 ≤ m by omega)
    exact tlinks_in a b held w (by omega) (by omega) (by omega) (by omega) (by omega)
end Go.Proofs.YtlpklloagaccoaaGreat
