/- The laws of lists: what they have in common (num, alive). No condition. -/
import Derived.Test.YtlpklloagaccoaaGreatList5
import Derived.Test.YtlpklloagaccoaaGreatEngNew
import Derived.Outline
namespace Go.Proofs.YtlpklloagaccoaaGreat
open Go.RowKit
set_option linter.unusedVariables false

theorem num17 (n : Int) (w : World) : Calls Tryz.prog 31 #[.int .i64 n] w fun e w' => e = .returned (.int .i64 n) ∧ w = w' := by
  go_enter Tryz.func31, Tryz.ntmps31
  go_wp2
  go_ret
  exact ⟨rfl, rfl⟩
theorem int_ok (S : EngS) (v : Int) (h : in64 v) : ValOk S 1 v := ⟨by omega, h, fun e => by omega⟩
/-- A list that was made in an engine of 'n' pages. -/
def LReady (o : Own) (w : World) (p : Nat) (n : Nat) (a : Nat) (f : Nat → Nat × Int) (k c : Nat) (s : Int) (tm : Nat) : Prop :=
  ∃ S, EngRep o w 1 p S ∧ LS S (a : Int) f k c s ∧ S.L.n = n ∧ S.L.t ≤ tm
set_option maxRecDepth 100000 in
theorem lready_new {o : Own} {p : Nat} (n : Nat) (lim : Int) (w : World) (hn : 2 ≤ n) (f : Nat → Nat × Int) (ho : Owned o w) (E : EngRep o w 1 p (newEng n lim)) :
    Calls Tryz.prog 28 #[.pointer (some ⟨p, 0, none⟩)] w fun e w' => ∃ a o', e = .returned (.tuple #[.int .i64 (a : Nat), .int .i64 0]) ∧ Fr 1 30 o o' w w' ∧ LReady o' w' p n a f 0 0 0 2 := by
  obtain ⟨L', a, hT, ht, _⟩ := tookL_room (newAl n) (wordsN 2 0) (by show 1 + (5 / 64 + 1) ≤ n; omega)
  exact (ls_new L' a w (by omega) ho E rfl hT).mono fun e w' hh => by
    obtain ⟨S', hL, hLn, h64, ⟨h1, o', F, E'⟩, hls⟩ := hh
    exact ⟨a, o', h1, F, S', E', hls f, by rw [hL, hLn]; rfl, by rw [hL]; exact ht⟩
set_option maxRecDepth 100000 in
set_option maxHeartbeats 1000000 in
theorem alive17 (w : World) : Calls Tryz.prog 26 #[] w fun e w' => e = .returned (.bool true) ∧ Below w.heap.size w w' := by
  have HN := Lib.hid (show Calls Tryz.prog 27 #[.int .i64 4, .int .i64 0, .int .i64 10] w (EngNew (fun _ => 0) w 1 4 10) from eng_new 1 4 10 w (Owned.zero w) (by omega) (by omega) (by omega) (by omega))
  have HM := Lib.hid (fun (o : Own) (p : Nat) (w1 : World) (ho : Owned o w1) (E : EngRep o w1 1 p (newEng 4 10)) => lready_new 4 10 w1 (by omega) (fun _ => (0, 0)) ho E)
  have HL := Lib.hid (fun (o : Own) (p a : Nat) (w1 : World) (ho : Owned o w1) (R : LReady o w1 p 4 a (fun _ => (0, 0)) 0 0 0 2) => show Calls Tryz.prog 34 #[.pointer (some ⟨p, 0, none⟩), .int .i64 (a : Nat)] w1 fun e w' => e = .returned (.tuple #[.int .i64 0, .int .i64 0]) ∧ Fr 0 0 o o w1 w' from by
    obtain ⟨S, E, A, _, _⟩ := R
    exact (ls_len w1 ho E A).mono fun e w' hh => ⟨hh.1, (Fr.refl ho).below hh.2⟩)
  have HP := Lib.hid (fun (o : Own) (p a : Nat) (w0 w1 : World) (ho : Owned o w0) (F : Fr 0 0 o o w0 w1) (R : LReady o w0 p 4 a (fun _ => (0, 0)) 0 0 0 2) => show Calls Tryz.prog 29 #[.pointer (some ⟨p, 0, none⟩), .int .i64 (a : Nat), valV 1 5] w1 fun e w' => ∃ o' c s, e = .returned (.int .i64 0) ∧ Fr 1 30 o o' w0 w' ∧ LReady o' w' p 4 a (updF (fun _ => (0, 0)) 0 (1, 5)) 1 c s 3 from by
    obtain ⟨S, E, A, hn, ht⟩ := R
    refine (push_any 1 5 w1 (by omega) F.fresh (E.keep F (.inr (Nat.zero_le _))) A (by omega) (int_ok S 5 (by unfold in64; omega))).mono fun e w' hh => ?_
    obtain ⟨L', t, hT, ht2, _⟩ := tookL_room S.L (wordsN (moreN 0 4) 0) (by show S.L.t + (9 / 64 + 1) ≤ S.L.n; omega)
    rcases hh with ⟨h, _⟩ | ⟨_, S', t', L2, hT2, hL, hLn, _, _, ⟨h1, o', F2, E'⟩, hls⟩ | ⟨_, hT2, _⟩
    · omega
    · rw [hT] at hT2
      cases hT2
      refine ⟨o', _, _, h1, (F.none 1 30).trans F2, S', E', hls, by rw [hL, hLn]; exact hn, ?_⟩
      rw [hL]
      have : L'.t ≤ S.L.t + (9 / 64 + 1) := ht2
      omega
    · rw [hT] at hT2; cases hT2)
  have HG := Lib.hid (fun (o : Own) (p a c : Nat) (s : Int) (w0 w1 : World) (ho : Owned o w0) (F : Fr 0 0 o o w0 w1) (R : LReady o w0 p 4 a (updF (fun _ => (0, 0)) 0 (1, 5)) 1 c s 3) => show Calls Tryz.prog 35 #[.pointer (some ⟨p, 0, none⟩), .int .i64 (a : Nat), .int .i64 0] w1 fun e w' => e = .returned (.tuple #[valV 1 5, .int .i64 0]) ∧ Below w1.heap.size w1 w' from by
    obtain ⟨S, E, A, hn, ht⟩ := R
    exact ls_get 0 w1 F.fresh (E.keep F (.inr (Nat.zero_le _))) A (by omega))
  go_enter Tryz.func26, Tryz.ntmps26
  go_wp2_with fail
  go_at_call 27
  refine HN.out.mono ?_
  rintro e w1 ⟨p, o1, rfl, F1, E1⟩
  have HF1 := Lib.hid F1
  have HE1 := Lib.hid E1
  clear F1 E1
  go_wp2_with fail
  go_at_call 28
  refine (HM.out _ _ _ HF1.out.fresh HE1.out).mono ?_
  rintro e w2 ⟨a, o2, rfl, F2, R2⟩
  have HF2 := Lib.hid (HF1.out.trans F2)
  have HR2 := Lib.hid R2
  clear F2 R2
  go_wp2_with fail
  go_at_call 34
  refine (HL.out _ _ _ _ HF2.out.fresh HR2.out).mono ?_
  rintro e w3 ⟨rfl, F3⟩
  have HF3 := Lib.hid F3
  clear F3
  go_wp2_with fail
  go_at_call 29
  refine (HP.out o2 _ _ w2 _ HF2.out.fresh (by repeat (first | exact HF3.out | refine Fr.drew ?_ | refine Fr.alloc ?_ _)) HR2.out).mono ?_
  rintro e w4 ⟨o4, c, s, rfl, F4, R4⟩
  have HF4 := Lib.hid (HF2.out.trans F4)
  have HR4 := Lib.hid R4
  clear F4 R4
  go_wp2_with fail
  go_at_call 35
  refine (HG.out o4 _ _ _ _ w4 _ HF4.out.fresh (by repeat (first | exact Fr.refl HF4.out.fresh | refine Fr.drew ?_ | refine Fr.alloc ?_ _)) HR4.out).mono ?_
  rintro e w5 ⟨rfl, hb⟩
  have HB := Lib.hid ((Fr.to_below (by omega) HF4.out).trans (hb.mono HF4.out.size))
  clear hb
  go_wp2_with (go_at_call 31; refine (num17 _ _).mono ?_; rintro e w' ⟨rfl, rfl⟩)
  go_ret
  exact ⟨rfl, HB.out.alloc HB.out.size _⟩
end Go.Proofs.YtlpklloagaccoaaGreat
