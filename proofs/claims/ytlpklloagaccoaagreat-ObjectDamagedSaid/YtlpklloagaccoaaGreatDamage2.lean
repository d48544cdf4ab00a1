/- object.Header on a word that may have been written over (printed by wip/gen_damage.py). Conditions: the arena is as one that was made; the handle is a block in use. -/
import Derived.Test.YtlpklloagaccoaaGreatDamage
import Derived.Outline
namespace Go.Proofs.YtlpklloagaccoaaGreat
open Go.RowKit
set_option linter.unusedVariables false
set_option linter.unusedSimpArgs false

def noHd : Value := .tuple #[hdV 0 0 0 0 0 false false, .int .i64 3]
section
variable {o : Own} {r p pa : Nat} {A : ArS}
set_option maxRecDepth 100000 in
set_option maxHeartbeats 2000000 in
theorem ohw_zero (h : Int) (a x n sz : Nat) (k c rr nn col : Nat) (z d : Bool) (w : World) (ho : Owned o w) (c0 : w.cell? ⟨p, 0, none⟩ = some (.pointer (some ⟨pa, 0, none⟩))) (R : ArenaRep o w r pa A) (ha : h = a) (hrange : a < A.n * 64) (hbl : A.bl h = some ⟨sz, n, 1⟩) (hm : A.m a = x)
    (HP : ∀ W, Calls Tryz.prog 107 #[.int .u64 (x : Nat)] W fun e w' => e = .returned (hdV k c rr nn col z d) ∧ Below W.heap.size W w') (hx : x = 0) :
    Calls Tryz.prog 54 #[.pointer (some ⟨p, 0, none⟩), .int .i64 h] w fun e w' => e = .returned noHd ∧ Below w.heap.size w w' := by
  have HSz := Lib.hid (fun (w1 : World) (G : Grew o w (.cells #[.int .i64 0, .int .i64 0, .int .i64 0, .int .i64 0, .int .i64 0, .bool false, .bool false] 65) w1) => show Calls Tryz.prog 106 #[.pointer (some ⟨pa, 0, none⟩), .int .i64 h] w1 fun e w' => e = .returned (.tuple #[.int .i64 (n : Nat), .int .i64 0]) ∧ Grew o w (.cells #[.int .i64 0, .int .i64 0, .int .i64 0, .int .i64 0, .int .i64 0, .bool false, .bool false] 65) w' from
    (asize_yes h _ w1 (R.keep G.fr (.inr (Nat.zero_le _))) hbl rfl).mono fun e w' h => ⟨h.1, by obtain ⟨_, n, rfl⟩ := h; exact ⟨G.fr.drewN n, G.x_⟩⟩)
  have HRd := Lib.hid (fun (w1 : World) (F : Fr 0 0 o o w w1) => show Calls Tryz.prog 52 #[.pointer (some ⟨pa, 0, none⟩), .int .i64 h] w1 fun e w' => e = .returned (.tuple #[.int .u64 (x : Nat), .int .i64 0]) ∧ w1 = w' from by
    rw [← hm]; exact aread_any h a w1 (R.keep F (.inr (Nat.zero_le _))) ha hrange)
  have HPar := Lib.hid HP
  have HO := Lib.hid ho
  have hpl := World.block_lt_of_cell? _ _ c0
  simp only at hpl
  have hz : ((x : Int) == 0) = true := by simp; omega
  clear hx
  clear R ha hrange hbl hm HP ho
  go_enter Tryz.func54, Tryz.ntmps54
  go_wp2_with fail
  go_at_call 106
  refine (HSz.out _ (by repeat (first | exact Grew.base HO.out _ | refine Grew.drew ?_ | refine Grew.alloc ?_ _))).mono ?_
  rintro e w1 ⟨rfl, G1⟩
  have F1 := G1.fr
  have HG1 := Lib.hid G1
  clear G1
  have c1 := F1.cell0 c0
  have hp1 : p < w1.heap.size := Nat.lt_of_lt_of_le hpl F1.size
  have HF1 := Lib.hid F1
  clear F1
  go_wp2_with fail
  go_at_call 52
  refine (HRd.out _ HF1.out).mono ?_
  rintro e w2 ⟨rfl, rfl⟩
  go_wp2_with fail
  go_at_call 107
  refine (HPar.out _).mono ?_
  rintro e w2 ⟨rfl, hb2⟩
  have HG2 := Lib.hid (HG1.out.below hb2)
  clear hb2
  have R3 := HG2.out.x_
  have HB3 := Lib.hid HG2.out.fr.below0
  have y0 : w2.cell? ⟨w.heap.size, 0, none⟩ = some (.int .i64 0) := by simp [World.cell?, R3]
  have y1 : w2.cell? ⟨w.heap.size, 1, none⟩ = some (.int .i64 0) := by simp [World.cell?, R3]
  have y2 : w2.cell? ⟨w.heap.size, 2, none⟩ = some (.int .i64 0) := by simp [World.cell?, R3]
  have y3 : w2.cell? ⟨w.heap.size, 3, none⟩ = some (.int .i64 0) := by simp [World.cell?, R3]
  have y4 : w2.cell? ⟨w.heap.size, 4, none⟩ = some (.int .i64 0) := by simp [World.cell?, R3]
  have y5 : w2.cell? ⟨w.heap.size, 5, none⟩ = some (.bool false) := by simp [World.cell?, R3]
  have y6 : w2.cell? ⟨w.heap.size, 6, none⟩ = some (.bool false) := by simp [World.cell?, R3]
  have z0 : w2.frozen? ⟨w.heap.size, 0, none⟩ = false := by simp [World.frozen?, R3]
  have z1 : w2.frozen? ⟨w.heap.size, 1, none⟩ = false := by simp [World.frozen?, R3]
  have z2 : w2.frozen? ⟨w.heap.size, 2, none⟩ = false := by simp [World.frozen?, R3]
  have z3 : w2.frozen? ⟨w.heap.size, 3, none⟩ = false := by simp [World.frozen?, R3]
  have z4 : w2.frozen? ⟨w.heap.size, 4, none⟩ = false := by simp [World.frozen?, R3]
  have z5 : w2.frozen? ⟨w.heap.size, 5, none⟩ = false := by simp [World.frozen?, R3]
  have z6 : w2.frozen? ⟨w.heap.size, 6, none⟩ = false := by simp [World.frozen?, R3]
  have hl2 := lt_of_block R3
  clear R3
  go_wp2_with fail
  refine bodyPost_ret (v := noHd) ?_ rfl ⟨rfl, ?_⟩
  · simp [results, Tryz.results54, go_sem, noHd, y0, y1, y2, y3, y4, y5, y6, hl2]
  · refine Below.alloc ?_ (by first | (simp; done) | (simp; omega)) _
    iterate 7 refine Below.setCell ?_ (by first | (simp; done) | (simp; omega)) _
    exact HB3.out
set_option maxRecDepth 100000 in
set_option maxHeartbeats 2000000 in
theorem ohw_word (h : Int) (a x n sz : Nat) (v : Nat) (k c rr nn col : Nat) (z d : Bool) (w : World) (ho : Owned o w) (c0 : w.cell? ⟨p, 0, none⟩ = some (.pointer (some ⟨pa, 0, none⟩))) (R : ArenaRep o w r pa A) (ha : h = a) (hrange : a < A.n * 64) (hbl : A.bl h = some ⟨sz, n, 1⟩) (hm : A.m a = x)
    (HP : ∀ W, Calls Tryz.prog 107 #[.int .u64 (x : Nat)] W fun e w' => e = .returned (hdV k c rr nn col z d) ∧ Below W.heap.size W w') (HWd0 : ∀ W, Calls Tryz.prog 104 #[hdV k c rr nn col z d] W fun e w' => e = .returned (.int .u64 (v : Nat)) ∧ Below W.heap.size W w') (hx : x ≠ 0) (hv : v ≠ x) :
    Calls Tryz.prog 54 #[.pointer (some ⟨p, 0, none⟩), .int .i64 h] w fun e w' => e = .returned noHd ∧ Below w.heap.size w w' := by
  have HSz := Lib.hid (fun (w1 : World) (G : Grew o w (.cells #[.int .i64 0, .int .i64 0, .int .i64 0, .int .i64 0, .int .i64 0, .bool false, .bool false] 65) w1) => show Calls Tryz.prog 106 #[.pointer (some ⟨pa, 0, none⟩), .int .i64 h] w1 fun e w' => e = .returned (.tuple #[.int .i64 (n : Nat), .int .i64 0]) ∧ Grew o w (.cells #[.int .i64 0, .int .i64 0, .int .i64 0, .int .i64 0, .int .i64 0, .bool false, .bool false] 65) w' from
    (asize_yes h _ w1 (R.keep G.fr (.inr (Nat.zero_le _))) hbl rfl).mono fun e w' h => ⟨h.1, by obtain ⟨_, n, rfl⟩ := h; exact ⟨G.fr.drewN n, G.x_⟩⟩)
  have HRd := Lib.hid (fun (w1 : World) (F : Fr 0 0 o o w w1) => show Calls Tryz.prog 52 #[.pointer (some ⟨pa, 0, none⟩), .int .i64 h] w1 fun e w' => e = .returned (.tuple #[.int .u64 (x : Nat), .int .i64 0]) ∧ w1 = w' from by
    rw [← hm]; exact aread_any h a w1 (R.keep F (.inr (Nat.zero_le _))) ha hrange)
  have HPar := Lib.hid HP
  have HO := Lib.hid ho
  have hpl := World.block_lt_of_cell? _ _ c0
  simp only at hpl
  have hz : ((x : Int) == 0) = false := by simp; omega
  have hvx : ((v : Int) != (x : Int)) = true := by simp; omega
  have HWd := Lib.hid HWd0
  clear hx hv HWd0
  clear R ha hrange hbl hm HP ho
  go_enter Tryz.func54, Tryz.ntmps54
  go_wp2_with fail
  go_at_call 106
  refine (HSz.out _ (by repeat (first | exact Grew.base HO.out _ | refine Grew.drew ?_ | refine Grew.alloc ?_ _))).mono ?_
  rintro e w1 ⟨rfl, G1⟩
  have F1 := G1.fr
  have HG1 := Lib.hid G1
  clear G1
  have c1 := F1.cell0 c0
  have hp1 : p < w1.heap.size := Nat.lt_of_lt_of_le hpl F1.size
  have HF1 := Lib.hid F1
  clear F1
  go_wp2_with fail
  go_at_call 52
  refine (HRd.out _ HF1.out).mono ?_
  rintro e w2 ⟨rfl, rfl⟩
  go_wp2_with fail
  go_at_call 107
  refine (HPar.out _).mono ?_
  rintro e w2 ⟨rfl, hb2⟩
  have HG2 := Lib.hid (HG1.out.below hb2)
  clear hb2
  go_wp2_with fail
  go_at_call 104
  refine (HWd.out _).mono ?_
  rintro e w3 ⟨rfl, hb3⟩
  have hlt2 := lt_of_block HG2.out.x_
  have X3 := (hb3.block _ (by simp)).trans (heap_alloc_new w2 _)
  have R3 := (hb3.block w.heap.size (by simp; omega)).trans ((((Fr.refl (lo := 0) (hi := 0) HG2.out.fr.fresh).alloc _).block _ hlt2 (.inr (Nat.zero_le _))).trans HG2.out.x_)
  have HB3 := Lib.hid (((HG2.out.fr.alloc _).below hb3).below0)
  have x0 : w3.cell? ⟨w2.heap.size, 0, none⟩ = some (.int .i64 (k : Nat)) := by simp [World.cell?, X3]
  have x1 : w3.cell? ⟨w2.heap.size, 1, none⟩ = some (.int .i64 (c : Nat)) := by simp [World.cell?, X3]
  have x2 : w3.cell? ⟨w2.heap.size, 2, none⟩ = some (.int .i64 (rr : Nat)) := by simp [World.cell?, X3]
  have x3 : w3.cell? ⟨w2.heap.size, 3, none⟩ = some (.int .i64 (nn : Nat)) := by simp [World.cell?, X3]
  have x4 : w3.cell? ⟨w2.heap.size, 4, none⟩ = some (.int .i64 (col : Nat)) := by simp [World.cell?, X3]
  have x5 : w3.cell? ⟨w2.heap.size, 5, none⟩ = some (.bool z) := by simp [World.cell?, X3]
  have x6 : w3.cell? ⟨w2.heap.size, 6, none⟩ = some (.bool d) := by simp [World.cell?, X3]
  have y0 : w3.cell? ⟨w.heap.size, 0, none⟩ = some (.int .i64 0) := by simp [World.cell?, R3]
  have y1 : w3.cell? ⟨w.heap.size, 1, none⟩ = some (.int .i64 0) := by simp [World.cell?, R3]
  have y2 : w3.cell? ⟨w.heap.size, 2, none⟩ = some (.int .i64 0) := by simp [World.cell?, R3]
  have y3 : w3.cell? ⟨w.heap.size, 3, none⟩ = some (.int .i64 0) := by simp [World.cell?, R3]
  have y4 : w3.cell? ⟨w.heap.size, 4, none⟩ = some (.int .i64 0) := by simp [World.cell?, R3]
  have y5 : w3.cell? ⟨w.heap.size, 5, none⟩ = some (.bool false) := by simp [World.cell?, R3]
  have y6 : w3.cell? ⟨w.heap.size, 6, none⟩ = some (.bool false) := by simp [World.cell?, R3]
  have z0 : w3.frozen? ⟨w.heap.size, 0, none⟩ = false := by simp [World.frozen?, R3]
  have z1 : w3.frozen? ⟨w.heap.size, 1, none⟩ = false := by simp [World.frozen?, R3]
  have z2 : w3.frozen? ⟨w.heap.size, 2, none⟩ = false := by simp [World.frozen?, R3]
  have z3 : w3.frozen? ⟨w.heap.size, 3, none⟩ = false := by simp [World.frozen?, R3]
  have z4 : w3.frozen? ⟨w.heap.size, 4, none⟩ = false := by simp [World.frozen?, R3]
  have z5 : w3.frozen? ⟨w.heap.size, 5, none⟩ = false := by simp [World.frozen?, R3]
  have z6 : w3.frozen? ⟨w.heap.size, 6, none⟩ = false := by simp [World.frozen?, R3]
  have hl2 := lt_of_block R3
  clear X3 R3 hb3 hlt2
  go_wp2_with fail
  refine bodyPost_ret (v := noHd) ?_ rfl ⟨rfl, ?_⟩
  · simp [results, Tryz.results54, go_sem, noHd, y0, y1, y2, y3, y4, y5, y6, hl2]
  · iterate 7 refine Below.setCell ?_ (by first | (simp; done) | (simp; omega)) _
    exact HB3.out
set_option maxRecDepth 100000 in
set_option maxHeartbeats 2000000 in
theorem ohw_size (h : Int) (a x n sz : Nat) (n2 : Nat) (k c rr nn col : Nat) (z d : Bool) (w : World) (ho : Owned o w) (c0 : w.cell? ⟨p, 0, none⟩ = some (.pointer (some ⟨pa, 0, none⟩))) (R : ArenaRep o w r pa A) (ha : h = a) (hrange : a < A.n * 64) (hbl : A.bl h = some ⟨sz, n, 1⟩) (hm : A.m a = x)
    (HP : ∀ W, Calls Tryz.prog 107 #[.int .u64 (x : Nat)] W fun e w' => e = .returned (hdV k c rr nn col z d) ∧ Below W.heap.size W w') (HWd0 : ∀ W, Calls Tryz.prog 104 #[hdV k c rr nn col z d] W fun e w' => e = .returned (.int .u64 (x : Nat)) ∧ Below W.heap.size W w') (HWs0 : ∀ W, Calls Tryz.prog 103 #[hdV k c rr nn col z d] W fun e w' => e = .returned (.int .i64 (n2 : Nat)) ∧ ∃ o, w' = W.alloc o) (hx : x ≠ 0) (hn : n2 ≠ n) :
    Calls Tryz.prog 54 #[.pointer (some ⟨p, 0, none⟩), .int .i64 h] w fun e w' => e = .returned noHd ∧ Below w.heap.size w w' := by
  have HSz := Lib.hid (fun (w1 : World) (G : Grew o w (.cells #[.int .i64 0, .int .i64 0, .int .i64 0, .int .i64 0, .int .i64 0, .bool false, .bool false] 65) w1) => show Calls Tryz.prog 106 #[.pointer (some ⟨pa, 0, none⟩), .int .i64 h] w1 fun e w' => e = .returned (.tuple #[.int .i64 (n : Nat), .int .i64 0]) ∧ Grew o w (.cells #[.int .i64 0, .int .i64 0, .int .i64 0, .int .i64 0, .int .i64 0, .bool false, .bool false] 65) w' from
    (asize_yes h _ w1 (R.keep G.fr (.inr (Nat.zero_le _))) hbl rfl).mono fun e w' h => ⟨h.1, by obtain ⟨_, n, rfl⟩ := h; exact ⟨G.fr.drewN n, G.x_⟩⟩)
  have HRd := Lib.hid (fun (w1 : World) (F : Fr 0 0 o o w w1) => show Calls Tryz.prog 52 #[.pointer (some ⟨pa, 0, none⟩), .int .i64 h] w1 fun e w' => e = .returned (.tuple #[.int .u64 (x : Nat), .int .i64 0]) ∧ w1 = w' from by
    rw [← hm]; exact aread_any h a w1 (R.keep F (.inr (Nat.zero_le _))) ha hrange)
  have HPar := Lib.hid HP
  have HO := Lib.hid ho
  have hpl := World.block_lt_of_cell? _ _ c0
  simp only at hpl
  have hz : ((x : Int) == 0) = false := by simp; omega
  have hvn : ((n2 : Int) == (n : Int)) = false := by simp; omega
  have HWd := Lib.hid HWd0
  have HWs := Lib.hid HWs0
  clear hx hn HWd0 HWs0
  clear R ha hrange hbl hm HP ho
  go_enter Tryz.func54, Tryz.ntmps54
  go_wp2_with fail
  go_at_call 106
  refine (HSz.out _ (by repeat (first | exact Grew.base HO.out _ | refine Grew.drew ?_ | refine Grew.alloc ?_ _))).mono ?_
  rintro e w1 ⟨rfl, G1⟩
  have F1 := G1.fr
  have HG1 := Lib.hid G1
  clear G1
  have c1 := F1.cell0 c0
  have hp1 : p < w1.heap.size := Nat.lt_of_lt_of_le hpl F1.size
  have HF1 := Lib.hid F1
  clear F1
  go_wp2_with fail
  go_at_call 52
  refine (HRd.out _ HF1.out).mono ?_
  rintro e w2 ⟨rfl, rfl⟩
  go_wp2_with fail
  go_at_call 107
  refine (HPar.out _).mono ?_
  rintro e w2 ⟨rfl, hb2⟩
  have HG2 := Lib.hid (HG1.out.below hb2)
  clear hb2
  go_wp2_with fail
  go_at_call 104
  refine (HWd.out _).mono ?_
  rintro e w3 ⟨rfl, hb3⟩
  have hlt2 := lt_of_block HG2.out.x_
  have X3 := (hb3.block _ (by simp)).trans (heap_alloc_new w2 _)
  have R3 := (hb3.block w.heap.size (by simp; omega)).trans ((((Fr.refl (lo := 0) (hi := 0) HG2.out.fr.fresh).alloc _).block _ hlt2 (.inr (Nat.zero_le _))).trans HG2.out.x_)
  have HB3 := Lib.hid (((HG2.out.fr.alloc _).below hb3).below0)
  have x0 : w3.cell? ⟨w2.heap.size, 0, none⟩ = some (.int .i64 (k : Nat)) := by simp [World.cell?, X3]
  have x1 : w3.cell? ⟨w2.heap.size, 1, none⟩ = some (.int .i64 (c : Nat)) := by simp [World.cell?, X3]
  have x2 : w3.cell? ⟨w2.heap.size, 2, none⟩ = some (.int .i64 (rr : Nat)) := by simp [World.cell?, X3]
  have x3 : w3.cell? ⟨w2.heap.size, 3, none⟩ = some (.int .i64 (nn : Nat)) := by simp [World.cell?, X3]
  have x4 : w3.cell? ⟨w2.heap.size, 4, none⟩ = some (.int .i64 (col : Nat)) := by simp [World.cell?, X3]
  have x5 : w3.cell? ⟨w2.heap.size, 5, none⟩ = some (.bool z) := by simp [World.cell?, X3]
  have x6 : w3.cell? ⟨w2.heap.size, 6, none⟩ = some (.bool d) := by simp [World.cell?, X3]
  have y0 : w3.cell? ⟨w.heap.size, 0, none⟩ = some (.int .i64 0) := by simp [World.cell?, R3]
  have y1 : w3.cell? ⟨w.heap.size, 1, none⟩ = some (.int .i64 0) := by simp [World.cell?, R3]
  have y2 : w3.cell? ⟨w.heap.size, 2, none⟩ = some (.int .i64 0) := by simp [World.cell?, R3]
  have y3 : w3.cell? ⟨w.heap.size, 3, none⟩ = some (.int .i64 0) := by simp [World.cell?, R3]
  have y4 : w3.cell? ⟨w.heap.size, 4, none⟩ = some (.int .i64 0) := by simp [World.cell?, R3]
  have y5 : w3.cell? ⟨w.heap.size, 5, none⟩ = some (.bool false) := by simp [World.cell?, R3]
  have y6 : w3.cell? ⟨w.heap.size, 6, none⟩ = some (.bool false) := by simp [World.cell?, R3]
  have z0 : w3.frozen? ⟨w.heap.size, 0, none⟩ = false := by simp [World.frozen?, R3]
  have z1 : w3.frozen? ⟨w.heap.size, 1, none⟩ = false := by simp [World.frozen?, R3]
  have z2 : w3.frozen? ⟨w.heap.size, 2, none⟩ = false := by simp [World.frozen?, R3]
  have z3 : w3.frozen? ⟨w.heap.size, 3, none⟩ = false := by simp [World.frozen?, R3]
  have z4 : w3.frozen? ⟨w.heap.size, 4, none⟩ = false := by simp [World.frozen?, R3]
  have z5 : w3.frozen? ⟨w.heap.size, 5, none⟩ = false := by simp [World.frozen?, R3]
  have z6 : w3.frozen? ⟨w.heap.size, 6, none⟩ = false := by simp [World.frozen?, R3]
  have hl2 := lt_of_block R3
  have hl1 := lt_of_block X3
  have hne : ¬ w2.heap.size = w.heap.size := by omega
  clear X3 R3 hb3 hlt2
  go_wp2_with (go_at_call 103; refine (HWs.out _).mono ?_; rintro e w4 ⟨rfl, o4, rfl⟩)
  refine bodyPost_ret (v := noHd) ?_ rfl ⟨rfl, ?_⟩
  · simp [results, Tryz.results54, go_sem, noHd, y0, y1, y2, y3, y4, y5, y6, hl2]
  · refine Below.alloc ?_ (by simp; omega) _
    iterate 7 refine Below.setCell ?_ (by first | (simp; done) | (simp; omega)) _
    exact HB3.out
set_option maxRecDepth 100000 in
set_option maxHeartbeats 2000000 in
theorem ohw_good (h : Int) (a x n sz : Nat) (k c rr nn col : Nat) (z d : Bool) (w : World) (ho : Owned o w) (c0 : w.cell? ⟨p, 0, none⟩ = some (.pointer (some ⟨pa, 0, none⟩))) (R : ArenaRep o w r pa A) (ha : h = a) (hrange : a < A.n * 64) (hbl : A.bl h = some ⟨sz, n, 1⟩) (hm : A.m a = x)
    (HP : ∀ W, Calls Tryz.prog 107 #[.int .u64 (x : Nat)] W fun e w' => e = .returned (hdV k c rr nn col z d) ∧ Below W.heap.size W w') (HWd0 : ∀ W, Calls Tryz.prog 104 #[hdV k c rr nn col z d] W fun e w' => e = .returned (.int .u64 (x : Nat)) ∧ Below W.heap.size W w') (HWs0 : ∀ W, Calls Tryz.prog 103 #[hdV k c rr nn col z d] W fun e w' => e = .returned (.int .i64 (n : Nat)) ∧ ∃ o, w' = W.alloc o) (hx : x ≠ 0) :
    Calls Tryz.prog 54 #[.pointer (some ⟨p, 0, none⟩), .int .i64 h] w fun e w' => e = .returned (.tuple #[hdV k c rr nn col z d, .int .i64 0]) ∧ Below w.heap.size w w' := by
  have HSz := Lib.hid (fun (w1 : World) (G : Grew o w (.cells #[.int .i64 0, .int .i64 0, .int .i64 0, .int .i64 0, .int .i64 0, .bool false, .bool false] 65) w1) => show Calls Tryz.prog 106 #[.pointer (some ⟨pa, 0, none⟩), .int .i64 h] w1 fun e w' => e = .returned (.tuple #[.int .i64 (n : Nat), .int .i64 0]) ∧ Grew o w (.cells #[.int .i64 0, .int .i64 0, .int .i64 0, .int .i64 0, .int .i64 0, .bool false, .bool false] 65) w' from
    (asize_yes h _ w1 (R.keep G.fr (.inr (Nat.zero_le _))) hbl rfl).mono fun e w' h => ⟨h.1, by obtain ⟨_, n, rfl⟩ := h; exact ⟨G.fr.drewN n, G.x_⟩⟩)
  have HRd := Lib.hid (fun (w1 : World) (F : Fr 0 0 o o w w1) => show Calls Tryz.prog 52 #[.pointer (some ⟨pa, 0, none⟩), .int .i64 h] w1 fun e w' => e = .returned (.tuple #[.int .u64 (x : Nat), .int .i64 0]) ∧ w1 = w' from by
    rw [← hm]; exact aread_any h a w1 (R.keep F (.inr (Nat.zero_le _))) ha hrange)
  have HPar := Lib.hid HP
  have HO := Lib.hid ho
  have hpl := World.block_lt_of_cell? _ _ c0
  simp only at hpl
  have hz : ((x : Int) == 0) = false := by simp; omega
  have HWd := Lib.hid HWd0
  have HWs := Lib.hid HWs0
  clear hx HWd0 HWs0
  clear R ha hrange hbl hm HP ho
  go_enter Tryz.func54, Tryz.ntmps54
  go_wp2_with fail
  go_at_call 106
  refine (HSz.out _ (by repeat (first | exact Grew.base HO.out _ | refine Grew.drew ?_ | refine Grew.alloc ?_ _))).mono ?_
  rintro e w1 ⟨rfl, G1⟩
  have F1 := G1.fr
  have HG1 := Lib.hid G1
  clear G1
  have c1 := F1.cell0 c0
  have hp1 : p < w1.heap.size := Nat.lt_of_lt_of_le hpl F1.size
  have HF1 := Lib.hid F1
  clear F1
  go_wp2_with fail
  go_at_call 52
  refine (HRd.out _ HF1.out).mono ?_
  rintro e w2 ⟨rfl, rfl⟩
  go_wp2_with fail
  go_at_call 107
  refine (HPar.out _).mono ?_
  rintro e w2 ⟨rfl, hb2⟩
  have HG2 := Lib.hid (HG1.out.below hb2)
  clear hb2
  go_wp2_with fail
  go_at_call 104
  refine (HWd.out _).mono ?_
  rintro e w3 ⟨rfl, hb3⟩
  have hlt2 := lt_of_block HG2.out.x_
  have X3 := (hb3.block _ (by simp)).trans (heap_alloc_new w2 _)
  have R3 := (hb3.block w.heap.size (by simp; omega)).trans ((((Fr.refl (lo := 0) (hi := 0) HG2.out.fr.fresh).alloc _).block _ hlt2 (.inr (Nat.zero_le _))).trans HG2.out.x_)
  have HB3 := Lib.hid (((HG2.out.fr.alloc _).below hb3).below0)
  have x0 : w3.cell? ⟨w2.heap.size, 0, none⟩ = some (.int .i64 (k : Nat)) := by simp [World.cell?, X3]
  have x1 : w3.cell? ⟨w2.heap.size, 1, none⟩ = some (.int .i64 (c : Nat)) := by simp [World.cell?, X3]
  have x2 : w3.cell? ⟨w2.heap.size, 2, none⟩ = some (.int .i64 (rr : Nat)) := by simp [World.cell?, X3]
  have x3 : w3.cell? ⟨w2.heap.size, 3, none⟩ = some (.int .i64 (nn : Nat)) := by simp [World.cell?, X3]
  have x4 : w3.cell? ⟨w2.heap.size, 4, none⟩ = some (.int .i64 (col : Nat)) := by simp [World.cell?, X3]
  have x5 : w3.cell? ⟨w2.heap.size, 5, none⟩ = some (.bool z) := by simp [World.cell?, X3]
  have x6 : w3.cell? ⟨w2.heap.size, 6, none⟩ = some (.bool d) := by simp [World.cell?, X3]
  have y0 : w3.cell? ⟨w.heap.size, 0, none⟩ = some (.int .i64 0) := by simp [World.cell?, R3]
  have y1 : w3.cell? ⟨w.heap.size, 1, none⟩ = some (.int .i64 0) := by simp [World.cell?, R3]
  have y2 : w3.cell? ⟨w.heap.size, 2, none⟩ = some (.int .i64 0) := by simp [World.cell?, R3]
  have y3 : w3.cell? ⟨w.heap.size, 3, none⟩ = some (.int .i64 0) := by simp [World.cell?, R3]
  have y4 : w3.cell? ⟨w.heap.size, 4, none⟩ = some (.int .i64 0) := by simp [World.cell?, R3]
  have y5 : w3.cell? ⟨w.heap.size, 5, none⟩ = some (.bool false) := by simp [World.cell?, R3]
  have y6 : w3.cell? ⟨w.heap.size, 6, none⟩ = some (.bool false) := by simp [World.cell?, R3]
  have z0 : w3.frozen? ⟨w.heap.size, 0, none⟩ = false := by simp [World.frozen?, R3]
  have z1 : w3.frozen? ⟨w.heap.size, 1, none⟩ = false := by simp [World.frozen?, R3]
  have z2 : w3.frozen? ⟨w.heap.size, 2, none⟩ = false := by simp [World.frozen?, R3]
  have z3 : w3.frozen? ⟨w.heap.size, 3, none⟩ = false := by simp [World.frozen?, R3]
  have z4 : w3.frozen? ⟨w.heap.size, 4, none⟩ = false := by simp [World.frozen?, R3]
  have z5 : w3.frozen? ⟨w.heap.size, 5, none⟩ = false := by simp [World.frozen?, R3]
  have z6 : w3.frozen? ⟨w.heap.size, 6, none⟩ = false := by simp [World.frozen?, R3]
  have hl2 := lt_of_block R3
  have hl1 := lt_of_block X3
  have hne : ¬ w2.heap.size = w.heap.size := by omega
  clear X3 R3 hb3 hlt2
  go_wp2_with (go_at_call 103; refine (HWs.out _).mono ?_; rintro e w4 ⟨rfl, o4, rfl⟩)
  refine bodyPost_ret (v := (.tuple #[hdV k c rr nn col z d, .int .i64 0])) ?_ rfl ⟨rfl, ?_⟩
  · simp [results, Tryz.results54, go_sem, noHd, y0, y1, y2, y3, y4, y5, y6, hl2]
  · refine Below.alloc ?_ (by simp; omega) _
    iterate 7 refine Below.setCell ?_ (by first | (simp; done) | (simp; omega)) _
    exact HB3.out
theorem ohead_w (h : Int) (a x n sz : Nat) (w : World) (ho : Owned o w) (c0 : w.cell? ⟨p, 0, none⟩ = some (.pointer (some ⟨pa, 0, none⟩))) (R : ArenaRep o w r pa A) (ha : h = a) (hrange : a < A.n * 64) (hbl : A.bl h = some ⟨sz, n, 1⟩) (hm : A.m a = x) (hx : x < 2 ^ 64) :
    Calls Tryz.prog 54 #[.pointer (some ⟨p, 0, none⟩), .int .i64 h] w fun e w' => e = .returned (if goodW x n = true then .tuple #[rdV x, .int .i64 0] else noHd) ∧ Below w.heap.size w w' := by
  have HP := fun W => read_any x hx W
  unfold goodW
  unfold rdV at HP ⊢
  generalize getv x 0 4 = k at *
  generalize getv x 4 16 = c at *
  generalize getv x 20 16 = rr at *
  generalize getv x 36 8 = nn at *
  generalize getv x 44 2 = col at *
  generalize (getv x 46 1 == 1) = z at *
  generalize (getv x 47 1 == 1) = d at *
  by_cases hR : rightB (k : Int) c rr nn col = true
  · have hb := hR
    simp only [rightB, inB, Bool.and_eq_true, decide_eq_true_eq] at hb
    by_cases hW : hdW k c rr nn col z d = x
    · have hx0 : x ≠ 0 := by
        have := hdW_pos (k := k) (c := c) (r := rr) (n := nn) (col := col) (z := z) (d := d) (by omega)
        omega
      have HWd := fun W => word_right k c rr nn col z d hR W
      rw [hW] at HWd
      have HWs := fun W => words_any k c rr nn col z d W (by omega) (by omega)
      by_cases hn : wordsN c rr = n
      · rw [hn] at HWs
        rw [if_pos (by rw [hR, hW, hn]; simp)]
        exact ohw_good h a x n sz k c rr nn col z d w ho c0 R ha hrange hbl hm HP HWd HWs hx0
      · rw [if_neg (by rw [hR, hW]; simpa using hn)]
        exact ohw_size h a x n sz _ k c rr nn col z d w ho c0 R ha hrange hbl hm HP HWd HWs hx0 hn
    · rw [if_neg (by rw [hR]; simp [hW])]
      by_cases hx0 : x = 0
      · exact ohw_zero h a x n sz k c rr nn col z d w ho c0 R ha hrange hbl hm HP hx0
      · exact ohw_word h a x n sz _ k c rr nn col z d w ho c0 R ha hrange hbl hm HP (fun W => word_right k c rr nn col z d hR W) hx0 hW
  · have hR' : rightB (k : Int) c rr nn col = false := by simpa using hR
    rw [if_neg (by rw [hR']; simp)]
    by_cases hx0 : x = 0
    · exact ohw_zero h a x n sz k c rr nn col z d w ho c0 R ha hrange hbl hm HP hx0
    · exact ohw_word h a x n sz 0 k c rr nn col z d w ho c0 R ha hrange hbl hm HP (fun W => (word_wrong k c rr nn col z d hR' W).mono fun e w' hh => ⟨hh.1, by obtain ⟨_, o1, o2, rfl⟩ := hh; exact ((Below.refl _ _).alloc (Nat.le_refl _) _).alloc (by simp) _⟩) hx0 (fun e => hx0 e.symm)
end
end Go.Proofs.YtlpklloagaccoaaGreat
