/- ObjectSizes returns true at every input. No condition. -/
import Derived.Test.YtlpklloagaccoaaLaw11
import Derived.Outline
namespace Go.Proofs.Ytlpklloagaccoaa
open Go.RowKit
set_option linter.unusedVariables false

set_option maxRecDepth 100000 in
theorem sizes_out (kind cells raw : Int) (w : World) (hin : ¬ (1 ≤ kind ∧ kind ≤ 8 ∧ 0 ≤ cells ∧ cells ≤ 200 ∧ 0 ≤ raw ∧ raw ≤ 500)) :
    Calls Try.prog 3 #[.int .i64 kind, .int .i64 cells, .int .i64 raw] w fun e w' => e = .returned (.bool true) ∧ Below w.heap.size w w' := by
  have hnot : ∀ (x : Bool) (w : World), (Op.unary .not (.bool x)).run Try.prog w = .ok (.bool (!x)) w := fun _ _ => rfl
  have HIN := Lib.hid hin
  clear hin
  go_enter Try.func3, Try.ntmps3
  go_wp2_with (go_at_call 5; refine (alive11 _).mono ?_; rintro e w1 ⟨rfl, hb1⟩; have HB1 := Lib.hid hb1; clear hb1)
  all_goals
    first
    | (exfalso; have := HIN.out; omega)
    | (go_ret; exact ⟨rfl, HB1.out⟩)
set_option maxRecDepth 100000 in
set_option maxHeartbeats 2000000 in
theorem sizes_in (kind cells raw : Nat) (w : World) (hk : 1 ≤ kind ∧ kind ≤ 8) (hc : cells ≤ 200) (hr : raw ≤ 500) :
    Calls Try.prog 3 #[.int .i64 (kind : Nat), .int .i64 (cells : Nat), .int .i64 (raw : Nat)] w fun e w' => e = .returned (.bool true) ∧ Below w.heap.size w w' := by
  have hnot : ∀ (x : Bool) (w : World), (Op.unary .not (.bool x)).run Try.prog w = .ok (.bool (!x)) w := fun _ _ => rfl
  have hwn : wordsN cells raw = 1 + 2 * cells + (raw + 7) / 8 := rfl
  obtain ⟨L', a, hT, _, _⟩ := tookL_room (newAl 60) (wordsN cells raw) (by show 1 + (wordsN cells raw / 64 + 1) ≤ 60; omega)
  have HN := Lib.hid (fun (w1 : World) => show Calls Try.prog 6 #[.int .i64 60, .int .i64 0] w1 (SpaceNew (fun _ => 0) w1 1 60) from space_new 1 60 w1 (Owned.zero w1) (by omega) (by omega))
  have HM := Lib.hid (fun (o : Own) (p : Nat) (w1 : World) (ho : Owned o w1) (S : SpaceRep o w1 1 p (newAl 60) (fun _ => none)) => show Calls Try.prog 7 #[.pointer (some ⟨p, 0, none⟩), .int .i64 (kind : Nat), .int .i64 (cells : Nat), .int .i64 (raw : Nat)] w1 fun e w' => e = .returned (.tuple #[.int .i64 (a : Nat), .int .i64 0]) ∧ ∃ o', Fr 1 (1 + 16) o o' w1 w' ∧ SpaceRep o' w' 1 p L' (updI (fun _ => none) (a : Int) (some (newOb kind cells raw))) from
    (smake_any kind cells raw w1 ho S rfl hk (by omega) (by omega)).mono fun e w' h => by
      obtain ⟨h1, h2, h3, h4, h5, h6, h7⟩ := h.1 _ _ hT
      exact ⟨h1, h7⟩)
  have hob : updI (fun _ => none) (a : Int) (some (newOb kind cells raw)) (a : Int) = some (newOb kind cells raw) := if_pos rfl
  have HC := Lib.hid (fun (o : Own) (p : Nat) (w1 : World) (i : Nat) (hi : i < cells) (ho : Owned o w1) (S : SpaceRep o w1 1 p L' (updI (fun _ => none) (a : Int) (some (newOb kind cells raw)))) => show Calls Try.prog 11 #[.pointer (some ⟨p, 0, none⟩), .int .i64 (a : Nat), .int .i64 (i : Nat)] w1 fun e w' => e = .returned (.tuple #[valV 0 0, .int .i64 0]) ∧ Below w1.heap.size w1 w' from
    (ocellv_yes (a : Int) (i : Int) (newOb kind cells raw) i w1 ho S hob rfl hi).mono fun e w' h => h)
  have HCN := Lib.hid (fun (o : Own) (p : Nat) (w1 : World) (ho : Owned o w1) (S : SpaceRep o w1 1 p L' (updI (fun _ => none) (a : Int) (some (newOb kind cells raw)))) => show Calls Try.prog 11 #[.pointer (some ⟨p, 0, none⟩), .int .i64 (a : Nat), .int .i64 (cells : Nat)] w1 fun e w' => e = .returned (.tuple #[valV 0 0, .int .i64 6]) ∧ Below w1.heap.size w1 w' from
    (ocellv_range (a : Int) (cells : Int) (newOb kind cells raw) w1 ho S hob (.inr (Int.le_refl _))).mono fun e w' h => h)
  have HRW := Lib.hid (fun (o : Own) (p : Nat) (w1 : World) (ho : Owned o w1) (S : SpaceRep o w1 1 p L' (updI (fun _ => none) (a : Int) (some (newOb kind cells raw)))) => show Calls Try.prog 12 #[.pointer (some ⟨p, 0, none⟩), .int .i64 (a : Nat)] w1 fun e w' => ∃ g, e = .returned (.tuple #[.slice (some ⟨g, 0, none⟩) raw raw, .int .i64 0]) ∧ Fr 0 0 o o w1 w' ∧ w1.heap.size ≤ g ∧ BytesB w' g raw (fun _ => 0) from
    (oraw_yes (a : Int) (newOb kind cells raw) w1 ho S hob).mono fun e w' h => h)
  obtain ⟨i8, hi8, hz8, hs8, hb8⟩ : ∃ i, Try.prog.info? 5 = some i ∧ i.zero = some (.int .u8 0) ∧ i.size = 1 ∧ i.bytes = 1 := by
    have h := infoU8
    cases hp : Try.prog.info? 5 with
    | none => rw [hp] at h; cases h
    | some i => rw [hp] at h; simp only [Option.map_some, Option.some.injEq, Prod.mk.injEq] at h; exact ⟨i, rfl, h.1, h.2.1, h.2.2⟩
  have hmk : ∀ W : World, (Instr.makeSlice 36 (.int .i64 (raw : Nat)) (.int .i64 (raw : Nat))).run Try.prog W = .ok (.slice (some ⟨W.heap.size, 0, none⟩) raw raw) (W.alloc (.cells (madeCells #[Value.int .u8 0] raw) 5)) := fun W => by
    have := run_make (P := Try.prog) W 36 5 i8 (.int .u8 0) Try.underlying36 hi8 hz8 .i64 .i64 (raw : Nat) (raw : Nat) (by omega) (Int.le_refl _) (by rw [hb8]; omega) (by omega)
    rw [Int.toNat_natCast, hs8, Nat.mul_one] at this
    exact this
  have k1 : (1 : Int) ≤ (kind : Int) := by omega
  have k2 : (kind : Int) ≤ 8 := by omega
  have cc0 : (0 : Int) ≤ (cells : Int) := by omega
  have cc1 : (cells : Int) ≤ 200 := by omega
  have r1 : (0 : Int) ≤ (raw : Int) := by omega
  have r2 : (raw : Int) ≤ 500 := by omega
  have heq := eqlV
  have HWN := Lib.hid hwn
  clear hi8 hz8 hs8 hb8 hT hob hk hc hr hwn
  go_enter Try.func3, Try.ntmps3
  go_wp2_with (go_at_call 5; refine (alive11 _).mono ?_; rintro e w1 ⟨rfl, hb1⟩; have HB1 := Lib.hid hb1; clear hb1)
  go_at_call 6
  refine (HN.out _).mono ?_
  rintro e w2 ⟨p, o2, rfl, F2, S2⟩
  have HF2 := Lib.hid F2
  have HS2 := Lib.hid S2
  clear F2 S2
  go_wp2_with fail
  go_at_call 7
  refine (HM.out _ _ _ HF2.out.fresh HS2.out).mono ?_
  rintro e w3 ⟨rfl, o3, F3, S3⟩
  have HF3 := Lib.hid (HF2.out.trans F3)
  obtain ⟨pa, A3, SS3⟩ := S3
  have HSz := Lib.hid (show Calls Try.prog 10 #[.pointer (some ⟨pa, 0, none⟩), .int .i64 (a : Nat)] w3 fun e w' => e = .returned (.tuple #[.int .i64 (1 + 2 * (cells : Int) + ((raw : Int) + 7) / 8), .int .i64 0]) ∧ ∃ n, w' = w3.drewN n by
    obtain ⟨a', sz, h1, h2, h3⟩ := SS3.ok.loc (a : Int) (newOb kind cells raw) (if_pos rfl)
    have := asize_yes (a : Int) _ w3 SS3.ar h2 rfl
    have e : (((⟨sz, wordsN (newOb kind cells raw).cells (newOb kind cells raw).raw, 1⟩ : Bl).asked : Nat) : Int) = 1 + 2 * (cells : Int) + ((raw : Int) + 7) / 8 := by
      show ((wordsN cells raw : Nat) : Int) = _
      rw [HWN.out]; omega
    rw [e] at this; exact this)
  have HS3 := Lib.hid SS3
  clear F3 SS3
  go_wp2_with (first
    | (go_at_call 8; refine (num11 _ _).mono ?_; rintro e w' ⟨rfl, rfl⟩)
    | (go_at_call 9; refine (oarena_any _ HS3.out).mono ?_; rintro e w' ⟨rfl, rfl⟩)
    | (go_at_call 10; refine HSz.out.mono ?_; rintro e w4 ⟨rfl, n4, rfl⟩))
  go_loopw [13] (fun iv wr => ∃ i : Nat, i ≤ cells ∧ iv = .int .i64 i ∧ Fr 0 0 o3 o3 w3 wr) (fun iv _ => cells - (intOf iv).toNat)
  case atStart => exact ⟨0, by omega, rfl, (Fr.refl HF3.out.fresh).drewN n4⟩
  case round =>
    obtain ⟨i, hi, rfl, F5⟩ := hrel
    have hS5 := (show SpaceRep o3 w3 1 p L' _ from ⟨pa, A3, HS3.out⟩).keep F5 (.inr (Nat.zero_le _))
    by_cases hix : i < cells
    · have hix' : (i : Int) < (cells : Int) := by omega
      have HCi := Lib.hid (HC.out o3 p wr i hix F5.fresh hS5)
      have HF5 := Lib.hid F5
      clear F5 hS5
      go_wp2_with (first
        | (go_at_call 11; refine HCi.out.mono ?_; rintro e w6 ⟨rfl, hb6⟩; have HB6 := Lib.hid hb6; clear hb6)
        | (go_at_call 8; refine (num11 _ _).mono ?_; rintro e w' ⟨rfl, rfl⟩))
      exact ⟨⟨i + 1, by omega, by go_num, by first | exact (HF5.out.below HB6.out).alloc _ | exact HF5.out.below HB6.out⟩, by simp [intOf]; omega⟩
    · have hix' : ¬ (i : Int) < (cells : Int) := by omega
      obtain rfl : i = cells := by omega
      have HRi := Lib.hid (HRW.out o3 p wr F5.fresh hS5)
      have HF5 := Lib.hid F5
      have HS5 := Lib.hid hS5
      clear F5 hS5
      go_wp2_with fail
      go_at_call 12
      refine HRi.out.mono ?_
      rintro e w6 ⟨g, rfl, F6, hg6, B6⟩
      have HF6 := Lib.hid F6
      have HB6 := Lib.hid B6
      have HCi := Lib.hid (HCN.out o3 p w6 F6.fresh (HS5.out.keep F6 (.inr (Nat.zero_le _))))
      clear F6 B6
      go_wp2_with fail
      go_at_call 11
      refine HCi.out.mono ?_
      rintro e w7 ⟨rfl, hb7⟩
      have B7 := HB6.out.of_eq (hb7.block _ HB6.out.lt)
      have HF7 := Lib.hid ((HF5.out.trans HF6.out).below hb7)
      have HB7 := Lib.hid B7
      have hg7 := B7.lt
      clear hb7 B7
      go_wp2_with (go_at_call 8; refine (num11 _ _).mono ?_; rintro e w' ⟨rfl, rfl⟩)
      obtain ⟨w8, hw8⟩ : ∃ w8, w8 = w7.alloc (.cells #[.int .i64 0, .int .i64 0] 33) := ⟨_, rfl⟩
      rw [← hw8]
      have HB8 := Lib.hid (show BytesB w8 g raw (fun _ => 0) by rw [hw8]; exact HB7.out.of_eq (Below.heap_alloc _ _ _ hg7))
      have HF8 := Lib.hid (show Fr 0 0 o3 o3 w3 w8 by rw [hw8]; exact HF7.out.alloc _)
      have hg8 := HB8.out.lt
      clear hw8
      have v1 : (convert 36 9 (.slice (some ⟨g, 0, none⟩) raw raw)).run Try.prog w8.drew = .ok (.string (strB raw fun _ => 0)) w8.drew := BytesB.conv (w := w8.drew) (HB8.out.of_eq rfl) raw
      have v2 : (convert 36 9 (.slice (some ⟨g, 0, none⟩) raw raw)).run Try.prog (w8.alloc (.cells (madeCells #[Value.int .u8 0] raw) 5)).drew = .ok (.string (strB raw fun _ => 0)) (w8.alloc (.cells (madeCells #[Value.int .u8 0] raw) 5)).drew := BytesB.conv (w := (w8.alloc (.cells (madeCells #[Value.int .u8 0] raw) 5)).drew) (HB8.out.of_eq (Below.heap_alloc _ _ _ hg8)) raw
      have v3 : (convert 36 9 (.slice (some ⟨w8.heap.size, 0, none⟩) raw raw)).run Try.prog (w8.alloc (.cells (madeCells #[Value.int .u8 0] raw) 5)).drew = .ok (.string (strB raw fun _ => 0)) (w8.alloc (.cells (madeCells #[Value.int .u8 0] raw) 5)).drew := BytesB.conv (w := (w8.alloc (.cells (madeCells #[Value.int .u8 0] raw) 5)).drew) ((BytesB.made w8 raw).of_eq rfl) raw
      generalize (strB raw fun _ => 0) = s at v1 v2 v3
      go_region_with (go_at_call 8; refine (num11 _ _).mono ?_; rintro e w' ⟨rfl, rfl⟩)
      all_goals
        go_wp2_with fail
        go_ret
        refine ⟨by first | rfl | simp, ?_⟩
        have hb := (Fr.to_below (by omega) HF3.out).trans (HF8.out.below0.mono HF3.out.size)
        have hb2 := HB1.out.trans (hb.mono HB1.out.size)
        first
        | exact (hb2.alloc hb2.size _).drew
        | exact hb2.alloc hb2.size _
        | exact hb2.drew
        | exact hb2
theorem sizes_walk (kind cells raw : Int) (w : World) :
    Calls Try.prog 3 #[.int .i64 kind, .int .i64 cells, .int .i64 raw] w fun e w' => e = .returned (.bool true) ∧ Below w.heap.size w w' := by
  by_cases hin : 1 ≤ kind ∧ kind ≤ 8 ∧ 0 ≤ cells ∧ cells ≤ 200 ∧ 0 ≤ raw ∧ raw ≤ 500
  · obtain ⟨k, rfl⟩ := Int.eq_ofNat_of_zero_le (show 0 ≤ kind by omega)
    obtain ⟨c, rfl⟩ := Int.eq_ofNat_of_zero_le (show 0 ≤ cells by omega)
    obtain ⟨r, rfl⟩ := Int.eq_ofNat_of_zero_le (show 0 ≤ raw by omega)
    exact sizes_in k c r w (by omega) (by omega) (by omega)
  · exact sizes_out kind cells raw w hin
end Go.Proofs.Ytlpklloagaccoaa
