/- The laws of objects: what they have in common (num, alive). No condition. -/
import Derived.Test.YtlpklloagaccoaaGreatStr
import Derived.Outline
namespace Go.Proofs.YtlpklloagaccoaaGreat
open Go.RowKit
set_option linter.unusedVariables false

theorem num11 (n : Int) (w : World) : Calls Tryz.prog 50 #[.int .i64 n] w fun e w' => e = .returned (.int .i64 n) ∧ w = w' := by
  go_enter Tryz.func50, Tryz.ntmps50
  go_wp2
  go_ret
  exact ⟨rfl, rfl⟩
theorem oarena_any {o : Own} {r p : Nat} {L : Al} {ob : Int → Option Ob} {pa : Nat} {A : ArS} (w : World) (S : Space o w r p L ob pa A) : Calls Tryz.prog 51 #[.pointer (some ⟨p, 0, none⟩)] w fun e w' => e = .returned (.pointer (some ⟨pa, 0, none⟩)) ∧ w = w' := by
  have c0 := S.c0
  clear S
  go_enter Tryz.func51, Tryz.ntmps51
  go_wp2
  go_ret
  exact ⟨rfl, rfl⟩
def al4 : Al := ⟨4, 2, fun c => if c = 1 then (1, 1) else (0, perN c), true⟩
theorem took4 : tookL (newAl 4) (wordsN 1 0) = some (al4, 64) := by
  unfold tookL
  rw [if_neg (by decide), if_neg (by decide), if_pos (by decide)]
  rfl
set_option maxRecDepth 100000 in
set_option maxHeartbeats 1000000 in
theorem alive11 (w : World) : Calls Tryz.prog 47 #[] w fun e w' => e = .returned (.bool true) ∧ Below w.heap.size w w' := by
  have HN := Lib.hid (show Calls Tryz.prog 48 #[.int .i64 4, .int .i64 0] w (SpaceNew (fun _ => 0) w 1 4) from space_new 1 4 w (Owned.zero w) (by omega) (by omega))
  have HM := Lib.hid (fun (o : Own) (p : Nat) (w1 : World) (ho : Owned o w1) (S : SpaceRep o w1 1 p (newAl 4) (fun _ => none)) => show Calls Tryz.prog 49 #[.pointer (some ⟨p, 0, none⟩), .int .i64 5, .int .i64 1, .int .i64 0] w1 fun e w' => e = .returned (.tuple #[.int .i64 64, .int .i64 0]) ∧ ∃ o', Fr 1 (1 + 16) o o' w1 w' ∧ SpaceRep o' w' 1 p al4 (updI (fun _ => none) 64 (some (newOb 5 1 0))) from
    (smake_any 5 1 0 w1 ho S rfl (by omega) (by omega) (by omega)).mono fun e w' h => by
      obtain ⟨h1, h2, h3, h4, h5, h6, h7⟩ := h.1 _ _ took4
      exact ⟨h1, h7⟩)
  have HC := Lib.hid (fun (o : Own) (p : Nat) (w1 : World) (ho : Owned o w1) (S : SpaceRep o w1 1 p al4 (updI (fun _ => none) 64 (some (newOb 5 1 0)))) => show Calls Tryz.prog 61 #[.pointer (some ⟨p, 0, none⟩), .int .i64 64, .int .i64 0, valV 1 7] w1 fun e w' => e = .returned (.int .i64 0) ∧ ∃ o', Fr 1 (1 + 16) o o' w1 w' ∧ SpaceRep o' w' 1 p al4 (updI (updI (fun _ => none) 64 (some (newOb 5 1 0))) 64 (some (setVal (newOb 5 1 0) 0 (1, 7)))) from
    (osetcell_yes 64 0 (newOb 5 1 0) 0 1 7 w1 ho S rfl rfl (by show 0 < 1; omega) (by omega) (by unfold in64; omega)).mono fun e w' h => h)
  have HG := Lib.hid (fun (o : Own) (p : Nat) (w1 : World) (ho : Owned o w1) (S : SpaceRep o w1 1 p al4 (updI (updI (fun _ => none) 64 (some (newOb 5 1 0))) 64 (some (setVal (newOb 5 1 0) 0 (1, 7))))) => show Calls Tryz.prog 59 #[.pointer (some ⟨p, 0, none⟩), .int .i64 64, .int .i64 0] w1 fun e w' => e = .returned (.tuple #[valV 1 7, .int .i64 0]) ∧ Below w1.heap.size w1 w' from
    (ocellv_yes 64 0 (setVal (newOb 5 1 0) 0 (1, 7)) 0 w1 ho S rfl rfl (by show 0 < 1; omega)).mono fun e w' h => h)
  go_enter Tryz.func47, Tryz.ntmps47
  go_wp2_with fail
  go_at_call 48
  refine HN.out.mono ?_
  rintro e w1 ⟨p, o1, rfl, F1, S1⟩
  have HF1 := Lib.hid F1
  have HS1 := Lib.hid S1
  clear F1 S1
  go_wp2_with fail
  go_at_call 49
  refine (HM.out _ _ _ HF1.out.fresh HS1.out).mono ?_
  rintro e w2 ⟨rfl, o2, F2, S2⟩
  have HF2 := Lib.hid (HF1.out.trans F2)
  have HS2 := Lib.hid S2
  clear F2 S2
  go_wp2_with fail
  go_at_call 61
  refine (HC.out _ _ _ HF2.out.fresh HS2.out).mono ?_
  rintro e w3 ⟨rfl, o3, F3, S3⟩
  have HF3 := Lib.hid (HF2.out.trans F3)
  have HS3 := Lib.hid S3
  clear F3 S3
  go_wp2_with fail
  go_at_call 59
  refine (HG.out _ _ _ HF3.out.fresh HS3.out).mono ?_
  rintro e w4 ⟨rfl, hb4⟩
  have HB4 := Lib.hid ((Fr.to_below (by omega) HF3.out).trans (hb4.mono HF3.out.size))
  clear hb4
  go_wp2_with (go_at_call 50; refine (num11 _ _).mono ?_; rintro e w' ⟨rfl, rfl⟩)
  go_ret
  exact ⟨rfl, HB4.out.alloc HB4.out.size _⟩
end Go.Proofs.YtlpklloagaccoaaGreat
