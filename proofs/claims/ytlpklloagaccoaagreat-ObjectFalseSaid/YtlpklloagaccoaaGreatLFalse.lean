/- The walk of ObjectFalse. No condition. -/
import Derived.Test.YtlpklloagaccoaaGreatObNo
import Derived.Test.YtlpklloagaccoaaGreatLaw11
import Derived.Test.YtlpklloagaccoaaGreatLaw12
import Derived.Test.YtlpklloagaccoaaGreatLive
import Derived.Outline
namespace Go.Proofs.YtlpklloagaccoaaGreat
open Go.RowKit
set_option linter.unusedVariables false

theorem took9 : ∃ L' a, tookL (newAl 4) (wordsN 0 9) = some (L', a) := by
  obtain ⟨L', a, h, _⟩ := tookL_room (newAl 4) (wordsN 0 9) (by decide)
  exact ⟨L', a, h⟩
set_option maxRecDepth 100000 in
set_option maxHeartbeats 4000000 in
theorem false_walk (h : Int) (w : World) : Calls Tryz.prog 11 #[.int .i64 h] w fun e w' => e = .returned (.bool true) ∧ Below w.heap.size w w' := by
  obtain ⟨L', a, hT⟩ := took9
  have HN := Lib.hid (fun (o : Own) (w1 : World) (ho : Owned o w1) => show Calls Tryz.prog 48 #[.int .i64 4, .int .i64 0] w1 (SpaceNew o w1 1 4) from space_new 1 4 w1 ho (by omega) (by omega))
  have HM := Lib.hid (fun (o : Own) (p : Nat) (w1 : World) (ho : Owned o w1) (S : SpaceRep o w1 1 p (newAl 4) (fun _ => none)) => show Calls Tryz.prog 49 #[.pointer (some ⟨p, 0, none⟩), .int .i64 1, .int .i64 0, .int .i64 9] w1 fun e w' => e = .returned (.tuple #[.int .i64 (a : Nat), .int .i64 0]) ∧ ∃ o', Fr 1 (1 + 16) o o' w1 w' ∧ SpaceRep o' w' 1 p L' (updI (fun _ => none) (a : Int) (some (newOb 1 0 9))) from
    (smake_any 1 0 9 w1 ho S rfl (by omega) (by omega) (by omega)).mono fun e w' h => by
      obtain ⟨h1, h2, h3, h4, h5, h6, h7⟩ := h.1 _ _ hT
      exact ⟨h1, h7⟩)
  clear hT
  go_enter Tryz.func11, Tryz.ntmps11
  go_wp2_with fail
  go_at_call 47
  refine (alive11 _).mono ?_
  rintro e w1 ⟨rfl, hb1⟩
  have HF1 := Lib.hid (LF.of_below hb1)
  clear hb1
  go_wp2_with fail
  go_at_call 48
  refine (HN.out _ _ HF1.out.fresh).mono ?_
  rintro e w2 ⟨p, o2, rfl, F2, S2⟩
  have HF2 := Lib.hid (HF1.out.fr F2 (by omega))
  have HS2 := Lib.hid S2
  clear F2 S2
  go_wp2_with fail
  go_at_call 49
  refine (HM.out _ _ _ HF2.out.fresh HS2.out).mono ?_
  rintro e w3 ⟨rfl, o3, F3, S3⟩
  have HF3 := Lib.hid (HF2.out.fr F3 (by omega))
  have HS3 := Lib.hid S3
  clear F3 S3
  have hc : (a : Int) = h ∨ ¬ (a : Int) = h := by omega
  rcases hc with hc | hc
  · have hq : ((a : Int) == h) = true := by simpa using hc
    clear hc
    go_wp2_with (go_at_call 50; refine (num11 _ _).mono ?_; rintro e w' ⟨rfl, rfl⟩)
    go_ret
    exact ⟨rfl, HF3.out.tob⟩
  · have hq : ((a : Int) == h) = false := by simpa using hc
    have HX := Lib.hid (show updI (fun _ => none) (a : Int) (some (newOb 1 0 9)) h = none from if_neg (fun e => hc e.symm))
    clear hc
    go_wp2_with (go_at_call 50; refine (num11 _ _).mono ?_; rintro e w' ⟨rfl, rfl⟩)
    go_at_call 54
    refine (ohead_no h w3 HF3.out.fresh HS3.out HX.out).mono ?_
    rintro e w4 ⟨rfl, hb4⟩
    have HF4 := Lib.hid ((Fr.refl (lo := 0) (hi := 0) HF3.out.fresh).below hb4)
    clear hb4
    go_wp2_with fail
    go_at_call 59
    refine (ocellv_none h 0 _ (HF4.out.alloc _).fresh (HS3.out.keep (HF4.out.alloc _) (.inr (Nat.zero_le _))) HX.out).mono ?_
    rintro e w5 ⟨rfl, hb5⟩
    have HF5 := Lib.hid ((HF4.out.alloc _).below hb5)
    clear hb5
    go_wp2_with fail
    go_at_call 60
    refine (oraw_none h _ (HF5.out.alloc _).fresh (HS3.out.keep (HF5.out.alloc _) (.inr (Nat.zero_le _))) HX.out).mono ?_
    rintro e w6 ⟨rfl, hb6⟩
    have HF6 := Lib.hid ((HF5.out.alloc _).below hb6)
    clear hb6
    go_wp2_with (first
      | (go_at_call 50; refine (num11 _ _).mono ?_; rintro e w' ⟨rfl, rfl⟩)
      | (go_at_call 61; refine (osetcell_none h 0 0 0 _ HF6.out.fresh (HS3.out.keep HF6.out (.inr (Nat.zero_le _))) HX.out).mono ?_; rintro e w7 ⟨rfl, hb7⟩; have HF7 := Lib.hid (HF6.out.below hb7); clear hb7)
      | (go_at_call 62; refine (osetraw_none h 0 _ HF7.out.fresh (HS3.out.keep HF7.out (.inr (Nat.zero_le _))) HX.out).mono ?_; rintro e w8 ⟨rfl, hb8⟩; have HF8 := Lib.hid (HF7.out.below hb8); clear hb8)
      | (go_at_call 63; refine (odrop_none h _ HF8.out.fresh (HS3.out.keep HF8.out (.inr (Nat.zero_le _))) HX.out).mono ?_; rintro e w9 ⟨rfl, hb9⟩; have HF9 := Lib.hid (HF8.out.below hb9); clear hb9)
      | (go_at_call 64; refine (osethead_none h 1 0 0 0 0 false false _ HF9.out.fresh (HS3.out.keep HF9.out (.inr (Nat.zero_le _))) HX.out).mono ?_; rintro e w10 ⟨rfl, hb10⟩; have HF10 := Lib.hid (HF9.out.below hb10); clear hb10)
      | (go_at_call 58; refine (oall _ HF10.out.fresh (HS3.out.keep HF10.out (.inr (Nat.zero_le _)))).mono ?_
         rintro e w11 ⟨v, xs, rfl, hS, F11, R11⟩
         have hxs : xs = [(a : Int)] := hS.one (a : Int) (fun k => by
           unfold isOb updI
           by_cases hk : k = (a : Int)
           · rw [if_pos hk]; simp [hk]
           · rw [if_neg hk]; simp [hk])
         obtain ⟨A11, cap11, rfl, _⟩ := R11.row.rd
         subst hxs
         have HF11 := Lib.hid (HF10.out.trans F11)
         clear F11 R11 hS))
    go_ret
    exact ⟨rfl, (HF3.out.fr HF11.out (by omega)).tob⟩
end Go.Proofs.YtlpklloagaccoaaGreat
