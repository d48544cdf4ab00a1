/- The walk of TrialSticks. No condition. -/
import Derived.Test.YtlpklloagaccoaaGreatLSticks
import Derived.StillTailTactics
namespace Go.Proofs.YtlpklloagaccoaaGreat
open Go.RowKit
set_option linter.unusedVariables false

theorem sk_at {o : Own} {w : World} {r n cap : Nat} {A : Option Addr} {hs : List Int} (h : LRow o w r (.slice A n cap) hs) {i : Nat} (hi : i < hs.length) : ∃ g, A = some ⟨g, 0, none⟩ ∧ g < w.heap.size ∧ w.cell? ⟨g, i, none⟩ = some (.int .i64 (hs.getD i 0)) :=
  let ⟨g, h1, h2, h3, _, _⟩ := h.at_ hi; ⟨g, h1, h2, h3⟩
theorem sk_count {o : Own} {p n : Nat} {h : Int} (w0 w1 : World) (G : Fr 0 0 o o w0 w1) (A : SkX o w0 p n h) :
    Calls Tryz.prog 39 #[.pointer (some ⟨p, 0, none⟩), .int .i64 h] w1 fun e w' => ∃ t, e = .returned (.tuple #[.int .i64 t, .bool true]) ∧ Fr 0 0 o o w0 w' := by
  obtain ⟨S, x, E, hx, hst, _⟩ := A
  refine (rcount h x w1 G.fresh (E.keep G (.inr (Nat.zero_le _))) hx).mono fun e w' hh => ?_
  obtain ⟨h1, h2⟩ := hh
  rw [hst] at h1
  exact ⟨_, h1, G.below h2⟩
set_option maxRecDepth 100000 in
theorem tsticks_out (n lim : Int) (w : World) (h : n < 1 ∨ 20 < n ∨ lim < 2 ∨ 20 < lim) :
    Calls Tryz.prog 23 #[.int .i64 n, .int .i64 lim] w fun e w' => e = .returned (.bool true) ∧ Below w.heap.size w w' := by
  have HA := Lib.hid (alive14 w)
  have hn : n < 1 ∨ (¬ n < 1 ∧ 20 < n) ∨ (¬ n < 1 ∧ ¬ 20 < n ∧ lim < 2) ∨ (¬ n < 1 ∧ ¬ 20 < n ∧ ¬ lim < 2 ∧ 20 < lim) := by omega
  clear h
  rcases hn with h0 | ⟨h0, h3⟩ | ⟨h0, h3, h4⟩ | ⟨h0, h3, h4, h5⟩
  all_goals
    go_enter Tryz.func23, Tryz.ntmps23
    go_wp2_with fail
    go_at_call 84
    refine HA.out.mono ?_
    rintro e w1 ⟨rfl, hb⟩
    have HB := Lib.hid hb
    clear hb
    go_wp2_with fail
    go_ret
    exact ⟨rfl, HB.out⟩
set_option maxRecDepth 100000 in
set_option maxHeartbeats 8000000 in
theorem tsticks_in (n L : Nat) (w : World) (hn1 : 1 ≤ n) (hn : n ≤ 20) (hm1 : 2 ≤ L) (hm : L ≤ 20) :
    Calls Tryz.prog 23 #[.int .i64 (n : Nat), .int .i64 (L : Nat)] w fun e w' => e = .returned (.bool true) ∧ Below w.heap.size w w' := by
  have HA := Lib.hid (alive14 w)
  have HN := Lib.hid (fun (o : Own) (w1 : World) (ho : Owned o w1) => show Calls Tryz.prog 27 #[.int .i64 40, .int .i64 0, .int .i64 (L : Nat)] w1 (EngNew o w1 1 40 (L : Nat)) from eng_new 1 40 (L : Nat) w1 ho (by omega) (by omega) (by omega) (by omega))
  have h0 : ¬ (n : Int) < 1 := by omega
  have h1 : ¬ 20 < (n : Int) := by omega
  have h2 : ¬ (L : Int) < 2 := by omega
  have h3 : ¬ 20 < (L : Int) := by omega
  have hdn : ((n : Int) == 0) = false := by simp; omega
  have hdn' : ¬ (n : Int) = 0 := by omega
  have HL0 := Lib.hid (And.intro hn1 (And.intro hn (And.intro hm1 hm)))
  clear hn1 hn hm1 hm
  go_enter Tryz.func23, Tryz.ntmps23
  go_wp2_with fail
  go_at_call 84
  refine HA.out.mono ?_
  rintro e w1 ⟨rfl, hb⟩
  have HF1 := Lib.hid (LF.of_below hb)
  clear hb
  go_wp2_with fail
  go_at_call 27
  refine (HN.out _ _ HF1.out.fresh).mono ?_
  rintro e w2 ⟨p, o2, rfl, F2, E2⟩
  have HF2 := Lib.hid (HF1.out.fr F2 (by omega))
  have HA2 := Lib.hid (sk_first E2)
  clear F2 E2
  go_wp2_with fail
  go_loopw [7, 8] (fun vv iv wr => ∃ (i : Nat) (hs : List Int) (o' : Own), i ≤ n ∧ iv = .int .i64 i ∧ LF w o' wr ∧ SkMk o' wr p L i hs ∧ LRow o' wr 70 vv hs ∧ hs.length = i) (fun _ iv _ => n - (intOf iv).toNat)
  case atStart => exact ⟨0, [], o2, by omega, rfl, HF2.out, HA2.out, LRow.nil _ _ 70, rfl⟩
  case round =>
    obtain ⟨i, hs, oi, hi, rfl, Fi, Ai, Ri, hl⟩ := hrel
    have HFi := Lib.hid Fi
    have HRi := Lib.hid Ri
    have HAi := Lib.hid Ai
    have HLi := Lib.hid hl
    clear Fi Ai Ri hl
    by_cases hin : i < n
    · have hin' : (i : Int) < (n : Int) := by omega
      have HI := Lib.hid (And.intro hin (show i < 20 by have := HL0.out; omega))
      clear hi hin
      go_wp2_with fail
      go_at_call 66
      refine (sk_make wr _ (by repeat (first | exact Fr.refl HFi.out.fresh | refine Fr.drew ?_ | refine Fr.alloc ?_ _)) HAi.out (by have := HI.out; omega) (by have := HL0.out; omega)).mono ?_
      rintro e w5 ⟨a, o5, rfl, F5, A5⟩
      have HF5 := Lib.hid (HFi.out.fr F5 (by omega))
      have HA5 := Lib.hid A5
      have HR5 := Lib.hid (HRi.out.keep F5 (.inr (by omega)))
      clear F5 A5
      go_wp2_with (at_builtin; refine wpList_append_row _ rfl _ _ _ rfl Tryz.underlying38 (own := o5) (by first | exact HF5.out.fresh | exact (HF5.out.alloc _).fresh) 70 rfl (HR5.out.keep (lo := 0) (hi := 0) ((Fr.refl HF5.out.fresh).alloc _) (.inr (by omega))) rfl (RdS.one _ .i64 _ a (by simp)) (by rw [HLi.out]; have := HI.out; omega) ?_; intro v9 w9 o9 F9 R9; have HF9 := Lib.hid ((HF5.out.alloc _).fr F9 (by omega)); have HR9 := Lib.hid R9; have HA9 := Lib.hid ((HA5.out.keep ((Fr.refl (lo := 0) (hi := 0) HF5.out.fresh).alloc _) (.inr (by omega))).keep F9 (.inl (by omega))); clear F9 R9)
      exact ⟨⟨i + 1, hs ++ [a], o9, by have := HI.out; omega, by go_num, HF9.out, HA9.out, HR9.out, by have := HLi.out; simp [this]⟩, by have := HI.out; simp [intOf]; omega⟩
    · have hin' : ¬ (i : Int) < (n : Int) := by omega
      obtain rfl : i = n := by omega
      have HA0 := Lib.hid HAi.out.at
      obtain ⟨Am, capm, hvm, _⟩ := HRi.out.rd
      rw [HLi.out] at hvm
      subst hvm
      obtain ⟨gm, hgm, hgl, hc0⟩ := sk_at HRi.out (i := 0) (by have := HL0.out; have := HLi.out; omega)
      subst hgm
      clear hi hin hgl hc0
      go_wp2_with fail
      go_loopw [11] (fun jv wr => ∃ (j : Nat) (o' : Own), j ≤ i ∧ jv = .int .i64 j ∧ LF w o' wr ∧ SkAt o' wr p L i j hs ∧ LRow o' wr 70 (.slice (some ⟨gm, 0, none⟩) i capm) hs) (fun jv _ => i - (intOf jv).toNat)
      case atStart => exact ⟨0, oi, by omega, rfl, HFi.out, HA0.out, HRi.out⟩
      case round =>
        obtain ⟨j, oj, hj, rfl, Fj, Aj, Rj⟩ := hrel
        have HFj := Lib.hid Fj
        have HRj := Lib.hid Rj
        have HAj := Lib.hid Aj
        clear Fj Aj Rj
        by_cases hjn : j < i
        · have hji : (j : Int) < (i : Int) := by omega
          have hj0 : (0 : Int) ≤ (j : Int) := by omega
          have hn0 : ¬ i = 0 := by omega
          obtain ⟨c, hc⟩ : ∃ c, c = (j + 1) % i := ⟨_, rfl⟩
          have hci : c < i := by rw [hc]; exact Nat.mod_lt _ (by omega)
          have hci' : (c : Int) < (i : Int) := by omega
          have hc0 : (0 : Int) ≤ (c : Int) := by omega
          have hrem : ((j : Int) + 1).tmod (i : Int) = (c : Int) := by
            rw [hc]
            show (((j + 1 : Nat) : Int)).tmod ((i : Nat) : Int) = _
            exact (Int.ofNat_tmod (j + 1) i).symm
          have hj50 : (j : Int) < 50 := by have := HL0.out; omega
          have hw1 : IntKind.i64.wrap ((j : Int) + 1) = (j : Int) + 1 := by rw [IntKind.wrap_i64]; omega
          have hw2 : IntKind.i64.wrap (c : Int) = (c : Int) := by rw [IntKind.wrap_i64]; omega
          obtain ⟨g2, e2, hgl, hcj⟩ := sk_at HRj.out (i := j) (by have := HLi.out; omega)
          cases e2
          obtain ⟨g2, e2, _, hcc⟩ := sk_at HRj.out (i := c) (by have := HLi.out; omega)
          cases e2
          have HSt := Lib.hid (fun (w10 : World) (F : Fr 0 0 oj oj wr w10) => sk_set (m := c) wr w10 F HAj.out (by omega) HL0.out.2.2.1 hc)
          have HI := Lib.hid (And.intro hjn hci)
          clear hj hjn hci hc
          generalize hs.getD c 0 = ac at *
          generalize hs.getD j 0 = aj at *
          go_wp2_with fail
          go_still_tail 13, (by kernel_rfl)
          change wpList _ _ _ _ _ wr.drew
          go_wp2_with fail
          go_at_call 68
          refine (HSt.out _ (by repeat (first | exact Fr.refl HFj.out.fresh | refine Fr.drew ?_ | refine Fr.alloc ?_ _))).mono ?_
          rintro e w5 ⟨o5, rfl, F5, A5⟩
          have HF5 := Lib.hid (HFj.out.fr F5 (by omega))
          have HA5 := Lib.hid A5
          have HR5 := Lib.hid (HRj.out.keep F5 (.inr (by omega)))
          clear F5 A5 hgl hcj hcc hrem hw1 hw2
          go_wp2_with fail
          exact ⟨⟨j + 1, o5, by have := HI.out; omega, by go_num, HF5.out, HA5.out, HR5.out⟩, by have := HI.out; simp [intOf]; omega⟩
        · have hjn' : ¬ (j : Int) < (i : Int) := by omega
          obtain rfl : j = i := by omega
          have HA1 := Lib.hid (HAj.out.kt HL0.out.1 HL0.out.2.2.1)
          clear hj hjn
          go_wp2_with fail
          go_loopw [12] (fun kv wr => ∃ (k : Nat) (o' : Own), 1 ≤ k ∧ k ≤ L ∧ kv = .int .i64 k ∧ LF w o' wr ∧ SkKt o' wr p L j k hs ∧ LRow o' wr 70 (.slice (some ⟨gm, 0, none⟩) j capm) hs) (fun kv _ => L - (intOf kv).toNat)
          case atStart => exact ⟨1, oj, by omega, by have := HL0.out; omega, rfl, HFj.out, HA1.out, HRj.out⟩
          case round =>
            obtain ⟨k, ok, hk1, hk, rfl, Fk, Ak, Rk⟩ := hrel
            have HFk := Lib.hid Fk
            have HRk := Lib.hid Rk
            have HAk := Lib.hid Ak
            clear Fk Ak Rk
            have hi0 : (0 : Int) < (j : Int) := by have := HL0.out; omega
            have hi0n : 0 < j := by omega
            obtain ⟨g2, e2, hgl, hc0⟩ := sk_at HRk.out (i := 0) (by have := HLi.out; omega)
            cases e2
            by_cases hkm : k < L
            · have hkm' : (k : Int) < (L : Int) := by omega
              have hk0 : (0 : Int) ≤ (k : Int) := by omega
              have HSt := Lib.hid (fun (w10 : World) (F : Fr 0 0 ok ok wr w10) => sk_up wr w10 F HAk.out HL0.out.1 hkm hk1 (k : Int) rfl)
              have HI := Lib.hid (And.intro hkm hk1)
              clear hk hkm hk1
              generalize hs.getD 0 0 = ac at *
              go_wp2_with fail
              go_still_tail 9, (by kernel_rfl)
              change wpList _ _ _ _ _ wr.drew
              go_wp2_with fail
              go_at_call 68
              refine (HSt.out _ (by repeat (first | exact Fr.refl HFk.out.fresh | refine Fr.drew ?_ | refine Fr.alloc ?_ _))).mono ?_
              rintro e w5 ⟨o5, rfl, F5, A5⟩
              have HF5 := Lib.hid (HFk.out.fr F5 (by omega))
              have HA5 := Lib.hid A5
              have HR5 := Lib.hid (HRk.out.keep F5 (.inr (by omega)))
              clear F5 A5 hgl hc0
              go_wp2_with fail
              exact ⟨⟨k + 1, o5, by have := HI.out; omega, by have := HI.out; omega, by go_num, HF5.out, HA5.out, HR5.out⟩, by have := HI.out; simp [intOf]; omega⟩
            · have hkm' : ¬ (k : Int) < (L : Int) := by omega
              obtain rfl : k = L := by omega
              have HSw := Lib.hid (fun (w10 : World) (F : Fr 0 0 ok ok wr w10) => sk_sweep wr w10 F HAk.out HL0.out.1 HL0.out.2.1 HL0.out.2.2.2)
              clear hk hkm hk1 hgl hc0
              go_wp2_with fail
              go_at_call 86
              refine (HSw.out _ (by repeat (first | exact Fr.refl HFk.out.fresh | refine Fr.drew ?_ | refine Fr.alloc ?_ _))).mono ?_
              rintro e w5 ⟨A1, c1, A2, c2, o5, rfl, F5, _, _, X5⟩
              have HF5 := Lib.hid (HFk.out.fr F5 (by omega))
              have HX5 := Lib.hid X5
              have HR5 := Lib.hid (HRk.out.keep F5 (.inr (by omega)))
              clear F5 X5
              obtain ⟨g2, e2, hgl, hc0⟩ := sk_at HR5.out (i := 0) (by have := HLi.out; omega)
              cases e2
              have HCt := Lib.hid (fun (w10 : World) (F : Fr 0 0 o5 o5 w5 w10) => sk_count w5 w10 F HX5.out)
              have HAl := Lib.hid (fun (w10 : World) (F : Fr 0 0 o5 o5 w5 w10) => let ⟨_, _, _, _, _, N⟩ := HX5.out; nm_all w5 w10 F N)
              go_wp2_with fail
              go_at_call 39
              refine (HCt.out _ (by repeat (first | exact Fr.refl HF5.out.fresh | refine Fr.drew ?_ | refine Fr.alloc ?_ _))).mono ?_
              rintro e w6 ⟨t, rfl, F6⟩
              have HF6 := Lib.hid F6
              clear F6 hgl hc0
              go_wp2_with fail
              go_at_call 74
              refine (HAl.out _ (by repeat (first | exact HF6.out | refine Fr.drew ?_ | refine Fr.alloc ?_ _))).mono ?_
              rintro e w8 ⟨A8, c8, rfl, F8⟩
              have HF8 := Lib.hid (HF5.out.fr F8 (by omega))
              clear F8
              go_wp2_with fail
              go_ret
              exact ⟨rfl, HF8.out.tob⟩
theorem tsticks_walk (n lim : Int) (w : World) : Calls Tryz.prog 23 #[.int .i64 n, .int .i64 lim] w fun e w' => e = .returned (.bool true) ∧ Below w.heap.size w w' := by
  by_cases h : n < 1 ∨ 20 < n ∨ lim < 2 ∨ 20 < lim
  · exact tsticks_out n lim w h
  · obtain ⟨a, rfl⟩ := Int.eq_ofNat_of_zero_le (show 0 ≤ n by omega)
    obtain ⟨b, rfl⟩ := Int.eq_ofNat_of_zero_le (show 0 ≤ lim by omega)
    exact tsticks_in a b w (by omega) (by omega) (by omega) (by omega)
end Go.Proofs.YtlpklloagaccoaaGreat
