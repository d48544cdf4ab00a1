/- The walk of TrialTells. No condition. -/
import Derived.Test.YtlpklloagaccoaaGreatLTl
import Derived.StillTailTactics
namespace Go.Proofs.YtlpklloagaccoaaGreat
open Go.RowKit
set_option linter.unusedVariables false

/-- A slice of bools that came in. -/
def InBs (w : World) (a : Option Addr) (len cap : Nat) (B : Nat → Bool) : Prop :=
  (a = none ∧ len = 0) ∨ ∃ x, a = some x ∧ len ≤ cap ∧ cap ≤ maxLen ∧ ∀ i, i < cap → w.cell? (x.add i) = some (.bool (B i))
theorem InBs.at_ {w : World} {a : Option Addr} {len cap : Nat} {B : Nat → Bool} (h : InBs w a len cap B) (h0 : 0 < len) : ∃ b off, a = some ⟨b, off, none⟩ ∧ b < w.heap.size ∧ ∀ i, i < len → w.cell? ⟨b, off + i, none⟩ = some (.bool (B i)) := by
  rcases h with ⟨_, h⟩ | ⟨x, rfl, hl, hm, hc⟩
  · omega
  · obtain ⟨b, off, spot⟩ := x
    have hc0 := hc 0 (by omega)
    have hspot : spot = none := by simpa [Addr.add] using World.cell?_spot hc0
    subst hspot
    rw [add_spot] at hc0
    refine ⟨b, off, rfl, ?_, fun i hi => by rw [← add_spot]; exact hc i (by omega)⟩
    refine Nat.lt_of_not_le fun hb => ?_
    simp [World.cell?, Array.getElem?_eq_none hb] at hc0
set_option maxRecDepth 100000 in
theorem ttells_out (n : Int) (a : Option Addr) (len cap : Nat) (w : World) (h : n < 1 ∨ 30 < n ∨ (len : Int) < n) :
    Calls Tryz.prog 25 #[.int .i64 n, .slice a len cap] w fun e w' => e = .returned (.bool true) ∧ Below w.heap.size w w' := by
  have HA := Lib.hid (alive14 w)
  have hn : n < 1 ∨ (¬ n < 1 ∧ 30 < n) ∨ (¬ n < 1 ∧ ¬ 30 < n ∧ (len : Int) < n) := by omega
  clear h
  rcases hn with h0 | ⟨h0, h3⟩ | ⟨h0, h3, h4⟩
  all_goals
    go_enter Tryz.func25, Tryz.ntmps25
    go_wp2_with fail
    go_at_call 84
    refine HA.out.mono ?_
    rintro e w1 ⟨rfl, hb⟩
    have HB := Lib.hid hb
    clear hb
    go_wp2_with fail
    go_ret
    exact ⟨rfl, HB.out⟩
set_option maxRecDepth 100000 in
set_option maxHeartbeats 8000000 in
theorem ttells_in (n : Nat) (ba off len cap : Nat) (B : Nat → Bool) (w : World) (hn1 : 1 ≤ n) (hn : n ≤ 30) (hlen : n ≤ len) (hba : ba < w.heap.size) (hcell : ∀ i, i < len → w.cell? ⟨ba, off + i, none⟩ = some (.bool (B i))) :
    Calls Tryz.prog 25 #[.int .i64 (n : Nat), .slice (some ⟨ba, off, none⟩) len cap] w fun e w' => e = .returned (.bool true) ∧ Below w.heap.size w w' := by
  have HA := Lib.hid (alive14 w)
  have HN := Lib.hid (fun (o : Own) (w1 : World) (ho : Owned o w1) => show Calls Tryz.prog 27 #[.int .i64 40, .int .i64 0, .int .i64 1000] w1 (EngNew o w1 1 40 1000) from eng_new 1 40 1000 w1 ho (by omega) (by omega) (by omega) (by omega))
  have h0 : ¬ (n : Int) < 1 := by omega
  have h1 : ¬ 30 < (n : Int) := by omega
  have h2 : ¬ (len : Int) < (n : Int) := by omega
  have hdn : ((n : Int) == 0) = false := by simp; omega
  have hdn' : ¬ (n : Int) = 0 := by omega
  have HL0 := Lib.hid (And.intro hn1 (And.intro hn hlen))
  have HCl := Lib.hid (fun (i : Nat) (hi : i < len) (o' : Own) (w' : World) (F : LF w o' w') => (World.cell?_of_block (a := ⟨ba, off + i, none⟩) (F.old hba)).trans (hcell i hi))
  clear hn1 hn hlen hcell hba
  go_enter Tryz.func25, Tryz.ntmps25
  go_wp2_with fail
  go_at_call 84
  refine HA.out.mono ?_
  rintro e w1 ⟨rfl, hb⟩
  have HF1 := Lib.hid (LF.of_below hb)
  clear hb
  go_wp2_with fail
  go_at_call 27
  refine (HN.out _ _ HF1.out.fresh).mono ?_
  rintro e w2 ⟨p, o2, rfl, F2, E2⟩
  have HF2 := Lib.hid (HF1.out.fr F2 (by omega))
  have HA2 := Lib.hid (tl_first (B := B) E2)
  clear F2 E2
  go_wp2_with fail
  go_loopw [7, 8, 9] (fun vv wv iv wr => ∃ (i : Nat) (o' : Own), i ≤ n ∧ iv = .int .i64 i ∧ LF w o' wr ∧ TlMk o' wr p B i i ∧ LRow o' wr 70 vv (hL 2 i) ∧ LRow o' wr 71 wv (wL B i)) (fun _ _ iv _ => n - (intOf iv).toNat)
  case atStart => exact ⟨0, o2, by omega, rfl, HF2.out, HA2.out, LRow.nil _ _ 70, LRow.nil _ _ 71⟩
  case round =>
    obtain ⟨i, oi, hi, rfl, Fi, Ai, Ri, Wi⟩ := hrel
    have HFi := Lib.hid Fi
    have HRi := Lib.hid Ri
    have HWi := Lib.hid Wi
    have HAi := Lib.hid Ai
    clear Fi Ai Ri Wi
    by_cases hin : i < n
    · have hin' : (i : Int) < (n : Int) := by omega
      have hil : (i : Int) < (len : Int) := by have := HL0.out; omega
      have hi0 : (0 : Int) ≤ (i : Int) := by omega
      have HI := Lib.hid (And.intro hin (And.intro (show i < 30 by have := HL0.out; omega) (show i < len by have := HL0.out; omega)))
      have HCi := Lib.hid (HCl.out i HI.out.2.2)
      obtain ⟨bi, hbi⟩ : ∃ b, b = B i := ⟨_, rfl⟩
      rw [← hbi] at HCi
      have HBi := Lib.hid hbi
      clear hi hin hbi
      go_wp2_with fail
      go_at_call 66
      refine (tl_make wr _ (by repeat (first | exact Fr.refl HFi.out.fresh | refine Fr.drew ?_ | refine Fr.alloc ?_ _)) HAi.out (by have := HI.out; omega)).mono ?_
      rintro e w5 ⟨o5, rfl, F5, A5⟩
      have HF5 := Lib.hid (HFi.out.fr F5 (by omega))
      have HA5 := Lib.hid A5
      have HR5 := Lib.hid (HRi.out.keep F5 (.inr (by omega)))
      have HW5 := Lib.hid (HWi.out.keep F5 (.inr (by omega)))
      clear F5 A5
      obtain ⟨a, ha⟩ : ∃ a, a = hI 2 i := ⟨_, rfl⟩
      have HAe := Lib.hid ha
      rw [← ha]
      clear ha
      cases bi with
      | false =>
        go_wp2_with (at_builtin; refine wpList_append_row _ rfl _ _ _ rfl Tryz.underlying38 (own := o5) (by first | exact HF5.out.fresh | exact (HF5.out.alloc _).fresh) 70 rfl (HR5.out.keep (lo := 0) (hi := 0) ((Fr.refl HF5.out.fresh).alloc _) (.inr (by omega))) rfl (RdS.one _ .i64 _ a (by simp)) (by rw [hL_len]; have := HI.out; omega) ?_; intro v9 w9 o9 F9 R9; have HF9 := Lib.hid ((HF5.out.alloc _).fr F9 (by omega)); rw [HAe.out, ← hL_succ] at R9; have HR9 := Lib.hid R9; have HW9 := Lib.hid ((HW5.out.keep (lo := 0) (hi := 0) ((Fr.refl HF5.out.fresh).alloc _) (.inr (by omega))).keep F9 (.inr (by omega))); have HA9 := Lib.hid ((HA5.out.keep ((Fr.refl (lo := 0) (hi := 0) HF5.out.fresh).alloc _) (.inr (by omega))).keep F9 (.inl (by omega))); have hcb := HCi.out _ _ HF9.out; clear F9 R9)
        exact ⟨⟨i + 1, o9, by have := HI.out; omega, by go_num, HF9.out, HA9.out.skip HBi.out.symm, HR9.out, by have h := HW9.out; rw [wL_succ, if_neg (by rw [← HBi.out]; decide), List.append_nil]; exact h⟩, by have := HI.out; simp [intOf]; omega⟩
      | true =>
        go_wp2_with (at_builtin; refine wpList_append_row _ rfl _ _ _ rfl Tryz.underlying38 (own := o5) (by first | exact HF5.out.fresh | exact (HF5.out.alloc _).fresh) 70 rfl (HR5.out.keep (lo := 0) (hi := 0) ((Fr.refl HF5.out.fresh).alloc _) (.inr (by omega))) rfl (RdS.one _ .i64 _ a (by simp)) (by rw [hL_len]; have := HI.out; omega) ?_; intro v9 w9 o9 F9 R9; have HF9 := Lib.hid ((HF5.out.alloc _).fr F9 (by omega)); rw [HAe.out, ← hL_succ] at R9; have HR9 := Lib.hid R9; have HW9 := Lib.hid ((HW5.out.keep (lo := 0) (hi := 0) ((Fr.refl HF5.out.fresh).alloc _) (.inr (by omega))).keep F9 (.inr (by omega))); have HA9 := Lib.hid ((HA5.out.keep ((Fr.refl (lo := 0) (hi := 0) HF5.out.fresh).alloc _) (.inr (by omega))).keep F9 (.inl (by omega))); have hcb := HCi.out _ _ HF9.out; clear F9 R9)
        have HSt := Lib.hid (fun (w10 : World) (F : Fr 0 0 o9 o9 w9 w10) => tl_watch w9 w10 F HA9.out HBi.out.symm)
        rw [← HAe.out] at HSt
        go_wp2_with fail
        go_at_call 76
        refine (HSt.out _ (by repeat (first | exact Fr.refl HF9.out.fresh | refine Fr.drew ?_ | refine Fr.alloc ?_ _))).mono ?_
        rintro e w10 ⟨o10, rfl, F10, A10⟩
        have HF10 := Lib.hid (HF9.out.fr F10 (by omega))
        have HA10 := Lib.hid A10
        have HR10 := Lib.hid (HR9.out.keep F10 (.inr (by omega)))
        have HW10 := Lib.hid (HW9.out.keep F10 (.inr (by omega)))
        clear F10 A10
        go_wp2_with (at_builtin; refine wpList_append_row _ rfl _ _ _ rfl Tryz.underlying38 (own := o10) (by first | exact HF10.out.fresh | exact (HF10.out.alloc _).fresh) 71 rfl (HW10.out.keep (lo := 0) (hi := 0) ((Fr.refl HF10.out.fresh).alloc _) (.inr (by omega))) rfl (RdS.one _ .i64 _ a (by simp)) (by have := wL_len B i; have := HI.out; omega) ?_; intro v11 w11 o11 F11 R11; have HF11 := Lib.hid ((HF10.out.alloc _).fr F11 (by omega)); have HR11 := Lib.hid ((HR10.out.keep (lo := 0) (hi := 0) ((Fr.refl HF10.out.fresh).alloc _) (.inr (by omega))).keep F11 (.inl (by omega))); have HW11 := Lib.hid R11; have HA11 := Lib.hid ((HA10.out.keep ((Fr.refl (lo := 0) (hi := 0) HF10.out.fresh).alloc _) (.inr (by omega))).keep F11 (.inl (by omega))); clear F11 R11)
        exact ⟨⟨i + 1, o11, by have := HI.out; omega, by go_num, HF11.out, HA11.out, HR11.out, by have h := HW11.out; rw [wL_succ, if_pos HBi.out.symm, ← HAe.out]; exact h⟩, by have := HI.out; simp [intOf]; omega⟩
    · have hin' : ¬ (i : Int) < (n : Int) := by omega
      obtain rfl : i = n := by omega
      have HA0 := Lib.hid HAi.out.at
      obtain ⟨Am, capm, hvm, _⟩ := HRi.out.rd
      rw [hL_len] at hvm
      subst hvm
      obtain ⟨gm, hgm, hgl, hc0⟩ := hL_at HRi.out (i := 0) (by have := HL0.out; omega)
      subst hgm
      obtain ⟨Aw, capw, hvw, _⟩ := HWi.out.rd
      obtain ⟨m, hm⟩ : ∃ m, m = (wL B i).length := ⟨_, rfl⟩
      rw [← hm] at hvw
      subst hvw
      have HM := Lib.hid hm
      clear hi hin hgl hc0 hm
      go_wp2_with fail
      go_loopw [12] (fun jv wr => ∃ (j : Nat) (o' : Own), j ≤ i ∧ jv = .int .i64 j ∧ LF w o' wr ∧ TlAt o' wr p B i j ∧ LRow o' wr 70 (.slice (some ⟨gm, 0, none⟩) i capm) (hL 2 i) ∧ LRow o' wr 71 (.slice Aw m capw) (wL B i)) (fun jv _ => i - (intOf jv).toNat)
      case atStart => exact ⟨0, oi, by omega, rfl, HFi.out, HA0.out, HRi.out, HWi.out⟩
      case round =>
        obtain ⟨j, oj, hj, rfl, Fj, Aj, Rj, Wj⟩ := hrel
        have HFj := Lib.hid Fj
        have HRj := Lib.hid Rj
        have HWj := Lib.hid Wj
        have HAj := Lib.hid Aj
        clear Fj Aj Rj Wj
        by_cases hjn : j < i
        · have hji : (j : Int) < (i : Int) := by omega
          have hj0 : (0 : Int) ≤ (j : Int) := by omega
          have hn0 : ¬ i = 0 := by omega
          obtain ⟨c, hc⟩ : ∃ c, c = (j + 1) % i := ⟨_, rfl⟩
          have hci : c < i := by rw [hc]; exact Nat.mod_lt _ (by omega)
          have hci' : (c : Int) < (i : Int) := by omega
          have hc0 : (0 : Int) ≤ (c : Int) := by omega
          have hrem : ((j : Int) + 1).tmod (i : Int) = (c : Int) := by
            rw [hc]
            show (((j + 1 : Nat) : Int)).tmod ((i : Nat) : Int) = _
            exact (Int.ofNat_tmod (j + 1) i).symm
          have hj50 : (j : Int) < 50 := by have := HL0.out; omega
          have hw1 : IntKind.i64.wrap ((j : Int) + 1) = (j : Int) + 1 := by rw [IntKind.wrap_i64]; omega
          have hw2 : IntKind.i64.wrap (c : Int) = (c : Int) := by rw [IntKind.wrap_i64]; omega
          obtain ⟨g2, e2, hgl, hcj⟩ := hL_at HRj.out (i := j) (by omega)
          cases e2
          obtain ⟨g2, e2, _, hcc⟩ := hL_at HRj.out (i := c) (by omega)
          cases e2
          have HSt := Lib.hid (fun (w10 : World) (F : Fr 0 0 oj oj wr w10) => tl_set (m := c) wr w10 F HAj.out hjn HL0.out.2.1 hc)
          have HI := Lib.hid (And.intro hjn hci)
          clear hj hjn hci hc
          generalize hI 2 c = ac at *
          generalize hI 2 j = aj at *
          go_wp2_with fail
          go_still_tail 13, (by kernel_rfl)
          change wpList _ _ _ _ _ wr.drew
          go_wp2_with fail
          go_at_call 68
          refine (HSt.out _ (by repeat (first | exact Fr.refl HFj.out.fresh | refine Fr.drew ?_ | refine Fr.alloc ?_ _))).mono ?_
          rintro e w5 ⟨o5, rfl, F5, A5⟩
          have HF5 := Lib.hid (HFj.out.fr F5 (by omega))
          have HA5 := Lib.hid A5
          have HR5 := Lib.hid (HRj.out.keep F5 (.inr (by omega)))
          have HW5 := Lib.hid (HWj.out.keep F5 (.inr (by omega)))
          clear F5 A5 hgl hcj hcc hrem hw1 hw2
          go_wp2_with fail
          exact ⟨⟨j + 1, o5, by have := HI.out; omega, by go_num, HF5.out, HA5.out, HR5.out, HW5.out⟩, by have := HI.out; simp [intOf]; omega⟩
        · have hjn' : ¬ (j : Int) < (i : Int) := by omega
          obtain rfl : j = i := by omega
          clear hj hjn
          have hm30 := wL_len B j
          rw [← HM.out] at hm30
          have HM30 := Lib.hid (show m ≤ 30 by have := HL0.out; omega)
          clear hm30
          by_cases hw : wL B j = []
          · have hm0 : m = 0 := by rw [HM.out, hw]; rfl
            subst hm0
            have HTk := Lib.hid (HAj.out.tk hw)
            have HW2 := Lib.hid (show LRow oj wr 71 (.slice Aw 0 capw) [] from by have h := HWj.out; rw [hw] at h; exact h)
            clear hw
            go_wp2_with fail
            go_at_call 86
            refine (tl_sweep0 wr _ (by repeat (first | exact Fr.refl HFj.out.fresh | refine Fr.drew ?_ | refine Fr.alloc ?_ _)) HTk.out HL0.out.1 HL0.out.2.1).mono ?_
            rintro e w6 ⟨A1, c1, A2, c2, o6, rfl, F6, _, R6, A6⟩
            have HF6 := Lib.hid (HFj.out.fr F6 (by omega))
            have HA6 := Lib.hid A6
            have HW6 := Lib.hid (HW2.out.keep F6 (.inr (by omega)))
            have HQ6 := Lib.hid R6
            clear F6 A6 R6
            rw [hL_len] at ⊢
            have HSm := Lib.hid (fun (w7 : World) (F : Fr 0 0 o6 o6 w6 w7) => sameInts_n (xs := []) (ca := c2) (cb := capw) (m := 0) rfl w7 F.fresh (HQ6.out.keep fun g hg => F.block g hg (.inr (Nat.zero_le _))) ((HW6.out.keep F (.inr (by omega))).rdn) F.size (Nat.le_refl _) (by omega))
            go_wp2_with (go_at_call 78; refine (HSm.out _ (by repeat (first | exact Fr.refl HF6.out.fresh | refine Fr.drew ?_ | refine Fr.alloc ?_ _))).mono ?_; rintro e w7 ⟨rfl, F7⟩; have HF7 := Lib.hid (HF6.out.fr F7 (by omega)); have HA7 := Lib.hid (HA6.out.keep F7 (.inr (by omega))); clear F7)
            go_loopw [15] (fun kv wz => kv = .int .i64 0 ∧ Fr 0 0 o6 o6 w7 wz) (fun _ _ => 0)
            case atStart => exact ⟨rfl, Fr.refl HF7.out.fresh⟩
            case round =>
              obtain ⟨rfl, Fz⟩ := hrel
              have HFz := Lib.hid (HF7.out.fr Fz (by omega))
              have HAz := Lib.hid (HA7.out.keep Fz (.inr (by omega)))
              clear Fz
              go_wp2_with fail
              go_at_call 86
              refine (em_full wr _ (by repeat (first | exact Fr.refl HFz.out.fresh | refine Fr.drew ?_ | refine Fr.alloc ?_ _)) HAz.out).mono ?_
              rintro e w8 ⟨A8, c8, B8, d8, o8, rfl, F8, _, _, A8'⟩
              have HF8 := Lib.hid (HFz.out.fr F8 (by omega))
              have HA8 := Lib.hid A8'
              clear F8 A8'
              go_wp2_with fail
              go_at_call 74
              refine (em_all w8 _ (by repeat (first | exact Fr.refl HF8.out.fresh | refine Fr.drew ?_ | refine Fr.alloc ?_ _)) HA8.out).mono ?_
              rintro e w9 ⟨A9, c9, rfl, F9⟩
              have HF9 := Lib.hid (HF8.out.fr F9 (by omega))
              clear F9
              go_wp2_with fail
              go_ret
              exact ⟨rfl, HF9.out.tob⟩
          · have hm0 : (0 : Int) < (m : Int) := by
              have := List.length_pos_iff.2 hw
              have := HM.out
              omega
            have HTl := Lib.hid (fun (w10 : World) (F : Fr 0 0 oj oj wr w10) => tl_tells wr w10 F HAj.out HL0.out.2.1 hw)
            clear hw
            go_wp2_with fail
            go_at_call 86
            refine (HTl.out _ (by repeat (first | exact Fr.refl HFj.out.fresh | refine Fr.drew ?_ | refine Fr.alloc ?_ _))).mono ?_
            rintro e w6 ⟨A1, c1, A2, c2, o6, rfl, F6, _, R6, A6⟩
            have HF6 := Lib.hid (HFj.out.fr F6 (by omega))
            have HA6 := Lib.hid A6
            have HW6 := Lib.hid (HWj.out.keep F6 (.inr (by omega)))
            have HQ6 := Lib.hid R6
            clear F6 A6 R6
            rw [← HM.out] at HQ6 ⊢
            have HSm := Lib.hid (fun (w7 : World) (F : Fr 0 0 o6 o6 w6 w7) => sameInts_n (ca := c2) (cb := capw) (m := m) HM.out.symm w7 F.fresh (HQ6.out.keep fun g hg => F.block g hg (.inr (Nat.zero_le _))) ((HW6.out.keep F (.inr (by omega))).rdn) F.size (Nat.le_refl _) (by have := HM30.out; omega))
            go_wp2_with (go_at_call 78; refine (HSm.out _ (by repeat (first | exact Fr.refl HF6.out.fresh | refine Fr.drew ?_ | refine Fr.alloc ?_ _))).mono ?_; rintro e w7 ⟨rfl, F7⟩; have HF7 := Lib.hid (HF6.out.fr F7 (by omega)); have HA7 := Lib.hid (HA6.out.keep F7 (.inr (by omega))); have HW7 := Lib.hid (HW6.out.keep F7 (.inr (by omega))); clear F7)
            go_loopw [15] (fun kv wz => ∃ (k : Nat) (o' : Own), k ≤ m ∧ kv = .int .i64 k ∧ LF w o' wz ∧ TlTk o' wz p j ((wL B j).drop k) ∧ LRow o' wz 71 (.slice Aw m capw) (wL B j)) (fun kv _ => m - (intOf kv).toNat)
            case atStart => exact ⟨0, o6, by omega, rfl, HF7.out, HA7.out, HW7.out⟩
            case round =>
              obtain ⟨k, ok, hk, rfl, Fk, Ak, Wk⟩ := hrel
              have HFk := Lib.hid Fk
              have HAk := Lib.hid Ak
              have HWk := Lib.hid Wk
              clear Fk Ak Wk
              by_cases hkm : k < m
              · have hkm' : (k : Int) < (m : Int) := by omega
                have hk0 : (0 : Int) ≤ (k : Int) := by omega
                have hkl : k < (wL B j).length := by have := HM.out; omega
                have hdr : (wL B j).drop k = (wL B j).getD k 0 :: (wL B j).drop (k + 1) := by
                  rw [List.drop_eq_getElem_cons hkl]
                  simp [List.getD, hkl]
                have hak := HAk.out
                rw [hdr] at hak
                have HTk := Lib.hid (fun (w10 : World) (F : Fr 0 0 ok ok wr w10) => tl_takes wr w10 F hak (by have := HM.out; have := HM30.out; rw [List.length_drop]; omega))
                have HI := Lib.hid (And.intro hkm hkl)
                have hk50 : (k : Int) < 50 := by have := HM30.out; omega
                clear hk hkm hkl hdr hak
                go_wp2_with fail
                go_at_call 80
                refine (HTk.out _ (by repeat (first | exact Fr.refl HFk.out.fresh | refine Fr.drew ?_ | refine Fr.alloc ?_ _))).mono ?_
                rintro e w8 ⟨o8, rfl, F8, A8⟩
                have HF8 := Lib.hid (HFk.out.fr F8 (by omega))
                have HA8 := Lib.hid A8
                have HW8 := Lib.hid (HWk.out.keep F8 (.inr (by omega)))
                clear F8 A8
                obtain ⟨g8, hg8, hgl8, hc8, hz8, hl8⟩ := HW8.out.at_ (i := k) HI.out.2
                clear hl8
                subst hg8
                generalize (wL B j).getD k 0 = x at *
                go_wp2_with fail
                exact ⟨⟨k + 1, o8, by have := HI.out; omega, by go_num, HF8.out, HA8.out, HW8.out⟩, by have := HI.out; simp [intOf]; omega⟩
              · have hkm' : ¬ (k : Int) < (m : Int) := by omega
                have HTk := Lib.hid (show TlTk ok wr p j [] from by have h := HAk.out; rw [List.drop_eq_nil_of_le (by have := HM.out; omega)] at h; exact h)
                clear hk hkm
                go_wp2_with fail
                go_at_call 86
                refine (tl_sweep0 wr _ (by repeat (first | exact Fr.refl HFk.out.fresh | refine Fr.drew ?_ | refine Fr.alloc ?_ _)) HTk.out HL0.out.1 HL0.out.2.1).mono ?_
                rintro e w8 ⟨A8, c8, B8, d8, o8, rfl, F8, _, _, A8'⟩
                have HF8 := Lib.hid (HFk.out.fr F8 (by omega))
                have HA8 := Lib.hid A8'
                clear F8 A8'
                go_wp2_with fail
                go_at_call 74
                refine (em_all w8 _ (by repeat (first | exact Fr.refl HF8.out.fresh | refine Fr.drew ?_ | refine Fr.alloc ?_ _)) HA8.out).mono ?_
                rintro e w9 ⟨A9, c9, rfl, F9⟩
                have HF9 := Lib.hid (HF8.out.fr F9 (by omega))
                clear F9
                go_wp2_with fail
                go_ret
                exact ⟨rfl, HF9.out.tob⟩
theorem ttells_walk (n : Int) (a : Option Addr) (len cap : Nat) (B : Nat → Bool) (w : World) (h0 : (Lit.int .i64 n).wf = true) (h1 : InBs w a len cap B) : Calls Tryz.prog 25 #[.int .i64 n, .slice a len cap] w fun e w' => e = .returned (.bool true) ∧ Below w.heap.size w w' := by
  by_cases h : n < 1 ∨ 30 < n ∨ (len : Int) < n
  · exact ttells_out n a len cap w h
  · obtain ⟨k, rfl⟩ := Int.eq_ofNat_of_zero_le (show 0 ≤ n by omega)
    obtain ⟨b, off, rfl, h2, h3⟩ := h1.at_ (by omega)
    exact ttells_in k b off len cap B w (by omega) (by omega) (by omega) h2 h3
end Go.Proofs.YtlpklloagaccoaaGreat
