/- The walk of TrialWeak. No condition. -/
import Derived.Test.YtlpklloagaccoaaGreatLWk
import Derived.StillTailTactics
namespace Go.Proofs.YtlpklloagaccoaaGreat
open Go.RowKit
set_option linter.unusedVariables false

theorem eqV (k x : Int) (w : World) : (binOp .eql 30 (.agg #[.int .i64 k, .int .i64 x]) (.agg #[.int .i64 k, .int .i64 x])).run Tryz.prog w = .ok (.bool true) w := by
  have hp : Tryz.prog.stoodInHeld 30 = false := by kernel_rfl
  simp [go_sem, part, hp]
theorem RdS.two (w : World) (k : IntKind) (T : TypeId) (x y : Int) {a : Nat} (ha : a = w.heap.size) : RdS (w.alloc (.cells #[.int k x, .int k y] T)) (w.heap.size + 1) k (some ⟨a, 0, none⟩) 2 [x, y] := by
  subst ha
  refine ⟨rfl, fun _ => ⟨w.heap.size, 0, rfl, by omega, fun i hi => ?_⟩⟩
  have hb := heap_alloc_new w (.cells #[.int k x, .int k y] T)
  rcases (show i = 0 ∨ i = 1 by omega) with rfl | rfl
  · simp only [World.cell?, hb]; rfl
  · simp only [World.cell?, hb]; rfl
theorem wk_at {o : Own} {w : World} {r n cap : Nat} {A : Option Addr} {hs : List Int} (h : LRow o w r (.slice A n cap) hs) {i : Nat} (hi : i < hs.length) : ∃ g, A = some ⟨g, 0, none⟩ ∧ g < w.heap.size ∧ w.cell? ⟨g, i, none⟩ = some (.int .i64 (hs.getD i 0)) :=
  let ⟨g, h1, h2, h3, _, _⟩ := h.at_ hi; ⟨g, h1, h2, h3⟩
set_option maxRecDepth 100000 in
theorem tweak_out (n : Int) (b : Bool) (w : World) (h : n < 1 ∨ 30 < n) :
    Calls Tryz.prog 24 #[.int .i64 n, .bool b] w fun e w' => e = .returned (.bool true) ∧ Below w.heap.size w w' := by
  have HA := Lib.hid (alive14 w)
  have hn : n < 1 ∨ (¬ n < 1 ∧ 30 < n) := by omega
  clear h
  rcases hn with h0 | ⟨h0, h3⟩
  all_goals
    go_enter Tryz.func24, Tryz.ntmps24
    go_wp2_with fail
    go_at_call 84
    refine HA.out.mono ?_
    rintro e w1 ⟨rfl, hb⟩
    have HB := Lib.hid hb
    clear hb
    go_wp2_with fail
    go_ret
    exact ⟨rfl, HB.out⟩
set_option maxRecDepth 100000 in
set_option maxHeartbeats 8000000 in
theorem tweak_in (n : Nat) (b : Bool) (w : World) (hn1 : 1 ≤ n) (hn : n ≤ 30) :
    Calls Tryz.prog 24 #[.int .i64 (n : Nat), .bool b] w fun e w' => e = .returned (.bool true) ∧ Below w.heap.size w w' := by
  have HA := Lib.hid (alive14 w)
  have HN := Lib.hid (fun (o : Own) (w1 : World) (ho : Owned o w1) => show Calls Tryz.prog 27 #[.int .i64 40, .int .i64 0, .int .i64 1000] w1 (EngNew o w1 1 40 1000) from eng_new 1 40 1000 w1 ho (by omega) (by omega) (by omega) (by omega))
  have h0 : ¬ (n : Int) < 1 := by omega
  have h1 : ¬ 30 < (n : Int) := by omega
  have hdn : ((n : Int) == 0) = false := by simp; omega
  have hdn' : ¬ (n : Int) = 0 := by omega
  have HL0 := Lib.hid (And.intro hn1 hn)
  clear hn1 hn
  go_enter Tryz.func24, Tryz.ntmps24
  go_wp2_with fail
  go_at_call 84
  refine HA.out.mono ?_
  rintro e w1 ⟨rfl, hb⟩
  have HF1 := Lib.hid (LF.of_below hb)
  clear hb
  go_wp2_with fail
  go_at_call 27
  refine (HN.out _ _ HF1.out.fresh).mono ?_
  rintro e w2 ⟨p, o2, rfl, F2, E2⟩
  have HF2 := Lib.hid (HF1.out.fr F2 (by omega))
  have HE2 := Lib.hid E2
  clear F2 E2
  go_wp2_with fail
  go_at_call 66
  refine (wq_first w2 _ (by repeat (first | exact Fr.refl HF2.out.fresh | refine Fr.drew ?_ | refine Fr.alloc ?_ _)) HE2.out).mono ?_
  rintro e w3 ⟨x, o3, rfl, F3, A3⟩
  have HF3 := Lib.hid (HF2.out.fr F3 (by omega))
  have HA3 := Lib.hid A3
  clear F3 A3
  go_wp2_with fail
  go_loopw [9, 10] (fun vv iv wr => ∃ (i : Nat) (hs : List Int) (o' : Own), i ≤ n ∧ iv = .int .i64 i ∧ LF w o' wr ∧ WqMk o' wr p i x hs ∧ LRow o' wr 70 vv hs ∧ hs.length = i) (fun _ iv _ => n - (intOf iv).toNat)
  case atStart => exact ⟨0, [], o3, by omega, rfl, HF3.out, HA3.out, LRow.nil _ _ 70, rfl⟩
  case round =>
    obtain ⟨i, hs, oi, hi, rfl, Fi, Ai, Ri, hl⟩ := hrel
    have HFi := Lib.hid Fi
    have HRi := Lib.hid Ri
    have HAi := Lib.hid Ai
    have HLi := Lib.hid hl
    clear Fi Ai Ri hl
    by_cases hin : i < n
    · have hin' : (i : Int) < (n : Int) := by omega
      have HI := Lib.hid (And.intro hin (show i < 30 by have := HL0.out; omega))
      clear hi hin
      go_wp2_with fail
      go_at_call 66
      refine (wq_make wr _ (by repeat (first | exact Fr.refl HFi.out.fresh | refine Fr.drew ?_ | refine Fr.alloc ?_ _)) HAi.out (by have := HI.out; omega)).mono ?_
      rintro e w5 ⟨a, o5, rfl, F5, A5⟩
      have HF5 := Lib.hid (HFi.out.fr F5 (by omega))
      have HA5 := Lib.hid A5
      have HR5 := Lib.hid (HRi.out.keep F5 (.inr (by omega)))
      clear F5 A5
      go_wp2_with (at_builtin; refine wpList_append_row _ rfl _ _ _ rfl Tryz.underlying38 (own := o5) (by first | exact HF5.out.fresh | exact (HF5.out.alloc _).fresh) 70 rfl (HR5.out.keep (lo := 0) (hi := 0) ((Fr.refl HF5.out.fresh).alloc _) (.inr (by omega))) rfl (RdS.one _ .i64 _ a (by simp)) (by rw [HLi.out]; have := HI.out; omega) ?_; intro v9 w9 o9 F9 R9; have HF9 := Lib.hid ((HF5.out.alloc _).fr F9 (by omega)); have HR9 := Lib.hid R9; have HA9 := Lib.hid ((HA5.out.keep ((Fr.refl (lo := 0) (hi := 0) HF5.out.fresh).alloc _) (.inr (by omega))).keep F9 (.inl (by omega))); clear F9 R9)
      exact ⟨⟨i + 1, hs ++ [a], o9, by have := HI.out; omega, by go_num, HF9.out, HA9.out, HR9.out, by have := HLi.out; simp [this]⟩, by have := HI.out; simp [intOf]; omega⟩
    · have hin' : ¬ (i : Int) < (n : Int) := by omega
      obtain rfl : i = n := by omega
      have HA0 := Lib.hid HAi.out.at
      obtain ⟨Am, capm, hvm, _⟩ := HRi.out.rd
      rw [HLi.out] at hvm
      subst hvm
      obtain ⟨gm, hgm, hgl, hc0⟩ := wk_at HRi.out (i := 0) (by have := HL0.out; have := HLi.out; omega)
      subst hgm
      clear hi hin hgl hc0
      go_wp2_with fail
      go_loopw [13] (fun jv wr => ∃ (j : Nat) (o' : Own), j ≤ i ∧ jv = .int .i64 j ∧ LF w o' wr ∧ WqAt o' wr p i j x hs (0, 0) ∧ LRow o' wr 70 (.slice (some ⟨gm, 0, none⟩) i capm) hs) (fun jv _ => i - (intOf jv).toNat)
      case atStart => exact ⟨0, oi, by omega, rfl, HFi.out, HA0.out, HRi.out⟩
      case round =>
        obtain ⟨j, oj, hj, rfl, Fj, Aj, Rj⟩ := hrel
        have HFj := Lib.hid Fj
        have HRj := Lib.hid Rj
        have HAj := Lib.hid Aj
        clear Fj Aj Rj
        by_cases hjn : j < i
        · have hji : (j : Int) < (i : Int) := by omega
          have hj0 : (0 : Int) ≤ (j : Int) := by omega
          have hn0 : ¬ i = 0 := by omega
          obtain ⟨c, hc⟩ : ∃ c, c = (j + 1) % i := ⟨_, rfl⟩
          have hci : c < i := by rw [hc]; exact Nat.mod_lt _ (by omega)
          have hci' : (c : Int) < (i : Int) := by omega
          have hc0 : (0 : Int) ≤ (c : Int) := by omega
          have hrem : ((j : Int) + 1).tmod (i : Int) = (c : Int) := by
            rw [hc]
            show (((j + 1 : Nat) : Int)).tmod ((i : Nat) : Int) = _
            exact (Int.ofNat_tmod (j + 1) i).symm
          have hj50 : (j : Int) < 50 := by have := HL0.out; omega
          have hw1 : IntKind.i64.wrap ((j : Int) + 1) = (j : Int) + 1 := by rw [IntKind.wrap_i64]; omega
          have hw2 : IntKind.i64.wrap (c : Int) = (c : Int) := by rw [IntKind.wrap_i64]; omega
          obtain ⟨g2, e2, hgl, hcj⟩ := wk_at HRj.out (i := j) (by have := HLi.out; omega)
          cases e2
          obtain ⟨g2, e2, _, hcc⟩ := wk_at HRj.out (i := c) (by have := HLi.out; omega)
          cases e2
          have HSt := Lib.hid (fun (w10 : World) (F : Fr 0 0 oj oj wr w10) => wq_set (m := c) wr w10 F HAj.out hjn hc)
          have HI := Lib.hid (And.intro hjn hci)
          clear hj hjn hci hc
          generalize hs.getD c 0 = ac at *
          generalize hs.getD j 0 = aj at *
          go_wp2_with fail
          go_still_tail 13, (by kernel_rfl)
          change wpList _ _ _ _ _ wr.drew
          go_wp2_with fail
          go_at_call 68
          refine (HSt.out _ (by repeat (first | exact Fr.refl HFj.out.fresh | refine Fr.drew ?_ | refine Fr.alloc ?_ _))).mono ?_
          rintro e w5 ⟨o5, rfl, F5, A5⟩
          have HF5 := Lib.hid (HFj.out.fr F5 (by omega))
          have HA5 := Lib.hid A5
          have HR5 := Lib.hid (HRj.out.keep F5 (.inr (by omega)))
          clear F5 A5 hgl hcj hcc hrem hw1 hw2
          go_wp2_with fail
          exact ⟨⟨j + 1, o5, by have := HI.out; omega, by go_num, HF5.out, HA5.out, HR5.out⟩, by have := HI.out; simp [intOf]; omega⟩
        · have hjn' : ¬ (j : Int) < (i : Int) := by omega
          obtain rfl : j = i := by omega
          clear hj hjn
          have hi0 : (0 : Int) < (j : Int) := by have := HL0.out; omega
          have hi0n : 0 < j := by omega
          obtain ⟨g2, e2, hgl, hc0⟩ := wk_at HRj.out (i := 0) (by have := HLi.out; omega)
          cases e2
          have HSt := Lib.hid (fun (w10 : World) (F : Fr 0 0 oj oj wr w10) => wq_hold wr w10 F HAj.out HL0.out.1)
          obtain ⟨m, hm⟩ : ∃ m, m = hs.getD 0 0 := ⟨_, rfl⟩
          rw [← hm] at hc0 HSt
          have HM := Lib.hid hm
          clear hm
          go_wp2_with fail
          go_at_call 68
          refine (HSt.out _ (by repeat (first | exact Fr.refl HFj.out.fresh | refine Fr.drew ?_ | refine Fr.alloc ?_ _))).mono ?_
          rintro e w5 ⟨o5, rfl, F5, A5⟩
          have HF5 := Lib.hid (HFj.out.fr F5 (by omega))
          have HA5 := Lib.hid A5
          have HR5 := Lib.hid (HRj.out.keep F5 (.inr (by omega)))
          clear F5 A5 hgl hc0
          cases b with
          | true =>
            have HA6 := HA5.out
            rw [HM.out] at HA6
            have hj1 : ((j : Int) - 1) = ((j - 1 : Nat) : Int) := by omega
            obtain ⟨k, hk⟩ : ∃ k, k = j - 1 := ⟨_, rfl⟩
            obtain ⟨g2, e2, hgl, hck⟩ := wk_at HR5.out (i := k) (by have := HLi.out; omega)
            cases e2
            rw [← hk] at hj1
            have hki : (k : Int) < (j : Int) := by omega
            obtain ⟨a, ha⟩ : ∃ a, a = hs.getD k 0 := ⟨_, rfl⟩
            have HSw := Lib.hid (fun (w6 : World) (F : Fr 0 0 o5 o5 w5 w6) (b : Nat) (hb : b = w6.heap.size) => wq_keeps (g := some ⟨b, 0, none⟩) (cc := 2) w5 (w6.alloc (.cells #[.int .i64 x, .int .i64 a] 3)) (F.alloc _) HA6 HL0.out.1 HL0.out.2 (by rw [← hk, ← ha]; have := RdS.two w6 .i64 3 x a hb; simpa using this) (fun b' off h => by cases h; rw [hb]; have := F.fresh _ (Nat.le_refl _); exact ⟨by simp, by omega⟩))
            rw [← HM.out] at HSw
            rw [← ha] at hck
            clear HA6 hk ha
            go_wp2_with fail
            go_at_call 86
            refine (HSw.out _ (by repeat (first | exact Fr.refl HF5.out.fresh | refine Fr.drew ?_ | refine Fr.alloc ?_ _)) _ (by first | rfl | simp)).mono ?_
            rintro e w6 ⟨A1, c1, A2, c2, o6, rfl, F6, _, _, A6⟩
            have HF6 := Lib.hid (HF5.out.fr F6 (by omega))
            have HA6 := Lib.hid A6
            have HR6 := Lib.hid (HR5.out.keep F6 (.inr (by omega)))
            clear F6 A6
            go_wp2_with fail
            go_at_call 30
            refine (wq_cell w6 _ (by repeat (first | exact Fr.refl HF6.out.fresh | refine Fr.drew ?_ | refine Fr.alloc ?_ _)) HA6.out).mono ?_
            rintro e w7 ⟨rfl, F7⟩
            have HF7 := Lib.hid F7
            have HA7 := Lib.hid (HA6.out.2.keep F7 (.inr (by omega)))
            have HR7 := Lib.hid (HR6.out.keep F7 (.inr (by omega)))
            clear F7
            obtain ⟨g2, e2, hgl, hc0⟩ := wk_at HR7.out (i := 0) (by have := HLi.out; omega)
            cases e2
            rw [← HM.out] at hc0
            have hq := eqV 3 m
            have HAl := Lib.hid (fun (w8 : World) (F : Fr 0 0 _ _ w7 w8) => nm_all w7 w8 F HA7.out)
            go_wp2_with fail
            have hwj : IntKind.i64.wrap ((j : Int) + 1) = (j : Int) + 1 := by have := HL0.out; rw [IntKind.wrap_i64]; omega
            go_region_with (go_at_call 74; refine (HAl.out _ (by repeat (first | exact Fr.refl HF7.out.fresh | refine Fr.drew ?_ | refine Fr.drewN ?_ _ | refine Fr.alloc ?_ _))).mono ?_; rintro e w8 ⟨A8, c8, rfl, F8⟩; have HF8 := Lib.hid ((HF6.out.fr HF7.out (by omega)).fr F8 (by omega)); clear F8)
            all_goals go_wp2_with fail
            all_goals go_ret
            all_goals (refine ⟨?_, HF8.out.tob⟩; first | rfl | (rw [beq_self_eq_true]; rfl))
          | false =>
            have HA6 := HA5.out
            rw [HM.out] at HA6
            have HSw := Lib.hid (fun (w6 : World) (F : Fr 0 0 o5 o5 w5 w6) (b : Nat) (hb : b = w6.heap.size) => wq_sweeps (g := some ⟨b, 0, none⟩) (cc := 1) w5 (w6.alloc (.cells #[.int .i64 x] 3)) (F.alloc _) HA6 HL0.out.1 HL0.out.2 (by have := RdS.one w6 .i64 3 x hb; simpa using this) (fun b' off h => by cases h; rw [hb]; have := F.fresh _ (Nat.le_refl _); exact ⟨by simp, by omega⟩))
            clear HA6
            go_wp2_with fail
            go_at_call 86
            refine (HSw.out _ (by repeat (first | exact Fr.refl HF5.out.fresh | refine Fr.drew ?_ | refine Fr.alloc ?_ _)) _ (by first | rfl | simp)).mono ?_
            rintro e w6 ⟨f, A1, c1, A2, c2, o6, rfl, F6, _, _, A6⟩
            have HF6 := Lib.hid (HF5.out.fr F6 (by omega))
            have HA6 := Lib.hid A6
            have HR6 := Lib.hid (HR5.out.keep F6 (.inr (by omega)))
            clear F6 A6
            go_wp2_with fail
            go_at_call 30
            refine (wq_cell w6 _ (by repeat (first | exact Fr.refl HF6.out.fresh | refine Fr.drew ?_ | refine Fr.alloc ?_ _)) HA6.out).mono ?_
            rintro e w7 ⟨rfl, F7⟩
            have HF7 := Lib.hid F7
            have HA7 := Lib.hid (HA6.out.2.keep F7 (.inr (by omega)))
            have HR7 := Lib.hid (HR6.out.keep F7 (.inr (by omega)))
            clear F7
            obtain ⟨g2, e2, hgl, hc0⟩ := wk_at HR7.out (i := 0) (by have := HLi.out; omega)
            cases e2
            rw [← HM.out] at hc0
            have hq := eqV 0 0
            have HAl := Lib.hid (fun (w8 : World) (F : Fr 0 0 _ _ w7 w8) => nm_all w7 w8 F HA7.out)
            go_wp2_with fail
            go_at_call 74
            refine (HAl.out _ (by repeat (first | exact Fr.refl HF7.out.fresh | refine Fr.drew ?_ | refine Fr.drewN ?_ _ | refine Fr.alloc ?_ _))).mono ?_
            rintro e w8 ⟨A8, c8, rfl, F8⟩
            have HF8 := Lib.hid ((HF6.out.fr HF7.out (by omega)).fr F8 (by omega))
            clear F8
            go_wp2_with fail
            go_ret
            exact ⟨rfl, HF8.out.tob⟩
theorem tweak_walk (n : Int) (b : Bool) (w : World) : Calls Tryz.prog 24 #[.int .i64 n, .bool b] w fun e w' => e = .returned (.bool true) ∧ Below w.heap.size w w' := by
  by_cases h : n < 1 ∨ 30 < n
  · exact tweak_out n b w h
  · obtain ⟨a, rfl⟩ := Int.eq_ofNat_of_zero_le (show 0 ≤ n by omega)
    exact tweak_in a b w (by omega) (by omega)
end Go.Proofs.YtlpklloagaccoaaGreat
