/- The walk of ObjectDamaged (printed by wip/gen_ldamage.py). No condition. -/
import Derived.Test.YtlpklloagaccoaaGreatLDamage
import Derived.Outline
namespace Go.Proofs.YtlpklloagaccoaaGreat
open Go.RowKit
set_option linter.unusedVariables false
set_option linter.unusedSimpArgs false

theorem rd_parts (x : Nat) : ∃ (k c rr nn col : Nat) (z d : Bool), rdV x = hdV k c rr nn col z d ∧ ∀ n, goodW x n = (rightB k c rr nn col && (hdW k c rr nn col z d == x) && (wordsN c rr == n)) :=
  ⟨_, _, _, _, _, _, _, rfl, fun _ => rfl⟩
/-- A header in a block, cell by cell. -/
structure HdC (w : World) (g k c rr nn col : Nat) (z d : Bool) : Prop where
  bl : w.heap[g]? = some (.cells #[.int .i64 (k : Nat), .int .i64 (c : Nat), .int .i64 (rr : Nat), .int .i64 (nn : Nat), .int .i64 (col : Nat), .bool z, .bool d] 65 (0, 0))
theorem HdC.cells {w : World} {g k c rr nn col : Nat} {z d : Bool} (h : HdC w g k c rr nn col z d) : w.cell? ⟨g, 0, none⟩ = some (.int .i64 (k : Nat)) ∧ w.cell? ⟨g, 1, none⟩ = some (.int .i64 (c : Nat)) ∧ w.cell? ⟨g, 2, none⟩ = some (.int .i64 (rr : Nat)) ∧ w.cell? ⟨g, 3, none⟩ = some (.int .i64 (nn : Nat)) ∧ w.cell? ⟨g, 4, none⟩ = some (.int .i64 (col : Nat)) ∧ w.cell? ⟨g, 5, none⟩ = some (.bool z) ∧ w.cell? ⟨g, 6, none⟩ = some (.bool d) ∧ g < w.heap.size := by
  have hb := h.bl
  refine ⟨?_, ?_, ?_, ?_, ?_, ?_, ?_, lt_of_block hb⟩ <;> simp [World.cell?, hb]
theorem HdC.fr {o o' : Own} {w w' : World} {g k c rr nn col : Nat} {z d : Bool} (h : HdC w g k c rr nn col z d) (F : Fr 0 0 o o' w w') : HdC w' g k c rr nn col z d :=
  ⟨(F.block g (lt_of_block h.bl) (.inr (Nat.zero_le _))).trans h.bl⟩
theorem HdC.new {w : World} {k c rr nn col : Nat} {z d : Bool} : HdC (w.alloc (.cells #[.int .i64 (k : Nat), .int .i64 (c : Nat), .int .i64 (rr : Nat), .int .i64 (nn : Nat), .int .i64 (col : Nat), .bool z, .bool d] 65)) w.heap.size k c rr nn col z d := ⟨heap_alloc_new w _⟩
theorem neqH (k c rr nn col : Int) (z d : Bool) (w : World) : (binOp .neq 65 (.agg #[.int .i64 k, .int .i64 c, .int .i64 rr, .int .i64 nn, .int .i64 col, .bool z, .bool d]) (.agg #[.int .i64 k, .int .i64 c, .int .i64 rr, .int .i64 nn, .int .i64 col, .bool z, .bool d])).run Tryz.prog w = .ok (.bool false) w := by
  have hp : Tryz.prog.stoodInHeld 65 = false := by kernel_rfl
  simp [go_sem, part, hp]
theorem eqlH (k c rr nn col : Int) (z d : Bool) (w : World) : (binOp .eql 65 (.agg #[.int .i64 k, .int .i64 c, .int .i64 rr, .int .i64 nn, .int .i64 col, .bool z, .bool d]) (.agg #[.int .i64 k, .int .i64 c, .int .i64 rr, .int .i64 nn, .int .i64 col, .bool z, .bool d])).run Tryz.prog w = .ok (.bool true) w := by
  have hp : Tryz.prog.stoodInHeld 65 = false := by kernel_rfl
  simp [go_sem, part, hp]
set_option maxRecDepth 100000 in
theorem dam_out (kind cells raw x : Int) (w : World) (h : kind < 1 ∨ 8 < kind ∨ cells < 0 ∨ 20 < cells ∨ raw < 0 ∨ 50 < raw) :
    Calls Tryz.prog 10 #[.int .i64 kind, .int .i64 cells, .int .i64 raw, .int .u64 x] w fun e w' => e = .returned (.bool true) ∧ Below w.heap.size w w' := by
  have HA := Lib.hid (alive11 w)
  have hn : kind < 1 ∨ (¬ kind < 1 ∧ 8 < kind) ∨ (¬ kind < 1 ∧ ¬ 8 < kind ∧ cells < 0) ∨ (¬ kind < 1 ∧ ¬ 8 < kind ∧ ¬ cells < 0 ∧ 20 < cells) ∨ (¬ kind < 1 ∧ ¬ 8 < kind ∧ ¬ cells < 0 ∧ ¬ 20 < cells ∧ raw < 0) ∨ (¬ kind < 1 ∧ ¬ 8 < kind ∧ ¬ cells < 0 ∧ ¬ 20 < cells ∧ ¬ raw < 0 ∧ 50 < raw) := by omega
  clear h
  rcases hn with h0 | ⟨h0, h1⟩ | ⟨h0, h1, h2⟩ | ⟨h0, h1, h2, h3⟩ | ⟨h0, h1, h2, h3, h4⟩ | ⟨h0, h1, h2, h3, h4, h5⟩
  all_goals
    go_enter Tryz.func10, Tryz.ntmps10
    go_wp2_with fail
    go_at_call 47
    refine HA.out.mono ?_
    rintro e w1 ⟨rfl, hb⟩
    have HB := Lib.hid hb
    clear hb
    go_wp2_with fail
    go_ret
    exact ⟨rfl, HB.out⟩
set_option maxRecDepth 100000 in
set_option maxHeartbeats 4000000 in
theorem dam_good (kind cells raw x : Nat) (k c rr nn col : Nat) (z d : Bool) (L' : Al) (a : Nat) (w : World) (hk : 1 ≤ kind ∧ kind ≤ 8) (hc : cells ≤ 20) (hr : raw ≤ 50) (hx : x < 2 ^ 64) (hT : tookL (newAl 20) (wordsN cells raw) = some (L', a)) (hP : rdV x = hdV k c rr nn col z d) (hG : goodW x (wordsN cells raw) = true) (hR : rightB k c rr nn col = true) (hW : hdW k c rr nn col z d = x) (hS : wordsN c rr = wordsN cells raw) :
    Calls Tryz.prog 10 #[.int .i64 (kind : Nat), .int .i64 (cells : Nat), .int .i64 (raw : Nat), .int .u64 (x : Nat)] w fun e w' => e = .returned (.bool true) ∧ Below w.heap.size w w' := by
  have HA := Lib.hid (alive11 w)
  have HN := Lib.hid (fun (o : Own) (w1 : World) (ho : Owned o w1) => show Calls Tryz.prog 48 #[.int .i64 20, .int .i64 0] w1 (SpaceNew o w1 1 20) from space_new 1 20 w1 ho (by omega) (by omega))
  have HM := Lib.hid (fun (o : Own) (p : Nat) (w1 : World) (ho : Owned o w1) (S : SpaceRep o w1 1 p (newAl 20) (fun _ => none)) => dm_make kind cells raw L' w1 w1 (Fr.refl ho) S hk (by omega) (by omega) hT)
  have HH := Lib.hid (fun (o : Own) (p pa : Nat) (w0 w1 : World) (F : Fr 0 0 o o w0 w1) (D : Dm o w0 p pa a (wordsN cells raw) x) => show Calls Tryz.prog 54 #[.pointer (some ⟨p, 0, none⟩), .int .i64 (a : Nat)] w1 fun e w' => e = .returned (.tuple #[hdV k c rr nn col z d, .int .i64 0]) ∧ Fr 0 0 o o w0 w' from
    (dm_head w0 w1 F D).mono fun e w' hh => ⟨by rw [hh.1, hG]; exact congrArg (fun v => Ending.returned (Value.tuple #[v, .int .i64 0])) hP, hh.2⟩)
  have HL := Lib.hid (fun (o : Own) (p pa : Nat) (w0 w1 : World) (F : Fr 0 0 o o w0 w1) (D : Dm o w0 p pa a (wordsN cells raw) x) => show Calls Tryz.prog 58 #[.pointer (some ⟨p, 0, none⟩)] w1 fun e w' => ∃ A cap, e = .returned (.slice A 1 cap) ∧ Fr 0 0 o o w0 w' from
    (dm_all w0 w1 F D).mono fun e w' hh => by
      obtain ⟨A, cap, h1, h2⟩ := hh
      rw [hG] at h1
      exact ⟨A, cap, h1, h2⟩)
  have HZ := Lib.hid (fun (o : Own) (p pa : Nat) (w0 w1 : World) (F : Fr 0 0 o o w0 w1) (D : Dm o w0 p pa a (wordsN cells raw) (hdW kind cells raw 0 0 false false)) => show Calls Tryz.prog 54 #[.pointer (some ⟨p, 0, none⟩), .int .i64 (a : Nat)] w1 fun e w' => e = .returned (.tuple #[hdV kind cells raw 0 0 false false, .int .i64 0]) ∧ Fr 0 0 o o w0 w' from
    (dm_head w0 w1 F D).mono fun e w' hh => ⟨by rw [hh.1, if_pos (good_new hk (by omega) (by omega)), rdV_hdW hk.2 (by omega) (by omega) (by omega) (by omega)]; rfl, hh.2⟩)
  have HRD := Lib.hid (fun W => show Calls Tryz.prog 55 #[.int .u64 (x : Nat)] W fun e w' => e = .returned (hdV k c rr nn col z d) ∧ Below W.heap.size W w' from by rw [← hP]; exact ref_read x hx W)
  have HRR := Lib.hid (fun W => show Calls Tryz.prog 56 #[hdV k c rr nn col z d] W fun e w' => e = .returned (.bool true) ∧ Below W.heap.size W w' from by rw [← hR]; exact ref_right k c rr nn col z d W)
  have hb := hR
  simp only [rightB, inB, Bool.and_eq_true, decide_eq_true_eq] at hb
  have hb1 : (c : Int) ≤ 4000 := by omega
  have hb2 : (rr : Int) ≤ 4000 := by omega
  clear hb
  have HWD := Lib.hid (fun W => show Calls Tryz.prog 57 #[hdV k c rr nn col z d] W fun e w' => e = .returned (.int .u64 (x : Nat)) ∧ Below W.heap.size W w' from by rw [← hW]; exact ref_word_yes k c rr nn col z d hR W)
  have hq : ((1 + 2 * (c : Int) + ((rr : Int) + 7) / 8) == (1 + 2 * (cells : Int) + ((raw : Int) + 7) / 8)) = true := by
    have h2 : 1 + 2 * c + (rr + 7) / 8 = 1 + 2 * cells + (raw + 7) / 8 := hS
    have h3 : (1 + 2 * (c : Int) + ((rr : Int) + 7) / 8) = (1 + 2 * (cells : Int) + ((raw : Int) + 7) / 8) := by omega
    simpa using h3
  have k1 : ¬ (kind : Int) < 1 := by omega
  have k2 : ¬ 8 < (kind : Int) := by omega
  have c1 : ¬ (cells : Int) < 0 := by omega
  have c2 : ¬ 20 < (cells : Int) := by omega
  have r1 : ¬ (raw : Int) < 0 := by omega
  have r2 : ¬ 50 < (raw : Int) := by omega
  have HX := Lib.hid hx
  have HXN := Lib.hid (hdW_lt (z := false) (d := false) (n := 0) (col := 0) hk.2 (show cells ≤ 4000 by omega) (show raw ≤ 4000 by omega) (by omega) (by omega))
  clear hk hc hr hx hT hP hG hR hW hS
  generalize wordsN cells raw = n at *
  generalize hdW kind cells raw 0 0 false false = hd at *
  go_enter Tryz.func10, Tryz.ntmps10
  go_wp2_with fail
  go_at_call 47
  refine HA.out.mono ?_
  rintro e w1 ⟨rfl, hb⟩
  have HF1 := Lib.hid (LF.of_below hb)
  clear hb
  go_wp2_with fail
  go_at_call 48
  refine (HN.out _ _ HF1.out.fresh).mono ?_
  rintro e w2 ⟨p, o2, rfl, F2, S2⟩
  have HF2 := Lib.hid (HF1.out.fr F2 (by omega))
  have HS2 := Lib.hid S2
  clear F2 S2
  go_wp2_with fail
  go_at_call 49
  refine (HM.out _ _ _ HF2.out.fresh HS2.out).mono ?_
  rintro e w3 ⟨rfl, o3, pa, F3, D3⟩
  have HF3 := Lib.hid (HF2.out.fr F3 (by omega))
  have HD3 := Lib.hid D3
  clear F3 D3 HS2
  go_wp2_with (first
    | (go_at_call 50; refine (num11 _ _).mono ?_; rintro e w' ⟨rfl, rfl⟩)
    | (go_at_call 51; refine (dm_arena w3 _ (Fr.refl HF3.out.fresh) HD3.out).mono ?_; rintro e w' ⟨rfl, rfl⟩))
  go_at_call 52
  refine (dm_read w3 _ (Fr.refl HF3.out.fresh) HD3.out).mono ?_
  rintro e w' ⟨rfl, rfl⟩
  go_wp2_with (go_at_call 51; refine (dm_arena w3 _ (Fr.refl HF3.out.fresh) HD3.out).mono ?_; rintro e w' ⟨rfl, rfl⟩)
  go_at_call 53
  refine (dm_write x w3 _ (Fr.refl HF3.out.fresh) HD3.out HX.out).mono ?_
  rintro e w4 ⟨rfl, o4, F4, D4⟩
  have HF4 := Lib.hid (HF3.out.fr F4 (by omega))
  have HD4 := Lib.hid D4
  clear F4 D4 HD3
  go_wp2_with fail
  go_at_call 54
  refine (HH.out _ _ _ w4 _ (Fr.refl HF4.out.fresh) HD4.out).mono ?_
  rintro e w5 ⟨rfl, F5⟩
  have HF5 := Lib.hid F5
  clear F5
  go_wp2_with fail
  go_at_call 55
  refine (HRD.out _).mono ?_
  rintro e w6 ⟨rfl, hb6⟩
  have HX6 := Lib.hid ((HdC.new (w := w5) (k := k) (c := c) (rr := rr) (nn := nn) (col := col) (z := z) (d := d)).fr (Fr.below (Fr.refl (lo := 0) (hi := 0) (HF5.out.alloc _).fresh) hb6))
  have HF6 := Lib.hid ((HF5.out.alloc _).below hb6)
  clear hb6
  go_wp2_with fail
  go_at_call 56
  refine (HRR.out _).mono ?_
  rintro e w7 ⟨rfl, hb7⟩
  have HX7 := Lib.hid (HX6.out.fr (Fr.below ((Fr.refl (lo := 0) (hi := 0) HF6.out.fresh).alloc _) hb7))
  have HY7 := Lib.hid ((HdC.new (w := w6) (k := k) (c := c) (rr := rr) (nn := nn) (col := col) (z := z) (d := d)).fr (Fr.below (Fr.refl (lo := 0) (hi := 0) (HF6.out.alloc _).fresh) hb7))
  have HF7 := Lib.hid ((HF6.out.alloc _).below hb7)
  clear hb7
  obtain ⟨y0, y1, y2, y3, y4, y5, y6, yl⟩ := HY7.out.cells
  go_wp2_with fail
  go_at_call 57
  refine (HWD.out _).mono ?_
  rintro e w8 ⟨rfl, hb8⟩
  have HX8 := Lib.hid (HX7.out.fr (Fr.below (Fr.refl (lo := 0) (hi := 0) HF7.out.fresh) hb8))
  have HY8 := Lib.hid (HY7.out.fr (Fr.below (Fr.refl (lo := 0) (hi := 0) HF7.out.fresh) hb8))
  have HF8 := Lib.hid (HF7.out.below hb8)
  clear hb8 y0 y1 y2 y3 y4 y5 y6 yl
  obtain ⟨y0, y1, y2, y3, y4, y5, y6, yl⟩ := HY8.out.cells
  obtain ⟨x0, x1, x2, x3, x4, x5, x6, xl⟩ := HX8.out.cells
  have hne := neqH k c rr nn col z d
  go_wp2_with (first
    | (go_at_call 50; refine (num11 _ _).mono ?_; rintro e w' ⟨rfl, rfl⟩)
    | (go_at_call 58; refine (HL.out _ _ _ w4 _ HF8.out HD4.out).mono ?_; rintro e w9 ⟨A9, cap9, rfl, F9⟩; have HF9 := Lib.hid F9; clear F9)
    | (go_at_call 51; refine (dm_arena w4 _ HF9.out HD4.out).mono ?_; rintro e w' ⟨rfl, rfl⟩))
  go_at_call 53
  refine (dm_write hd w4 _ HF9.out HD4.out HXN.out).mono ?_
  rintro e w10 ⟨rfl, o10, F10, D10⟩
  have HF10 := Lib.hid (HF4.out.fr F10 (by omega))
  have HD10 := Lib.hid D10
  clear F10 D10
  go_wp2_with fail
  go_at_call 54
  refine (HZ.out _ _ _ w10 _ (Fr.refl HF10.out.fresh) HD10.out).mono ?_
  rintro e w11 ⟨rfl, F11⟩
  have HF11 := Lib.hid (HF10.out.fr F11 (by omega))
  clear F11
  have hev := eqlH kind cells raw 0 0 false false
  go_wp2_with (go_at_call 50; refine (num11 _ _).mono ?_; rintro e w' ⟨rfl, rfl⟩)
  go_ret
  exact ⟨rfl, (HF11.out.alloc _).tob⟩
set_option maxRecDepth 100000 in
set_option maxHeartbeats 4000000 in
theorem dam_size (kind cells raw x : Nat) (k c rr nn col : Nat) (z d : Bool) (L' : Al) (a : Nat) (w : World) (hk : 1 ≤ kind ∧ kind ≤ 8) (hc : cells ≤ 20) (hr : raw ≤ 50) (hx : x < 2 ^ 64) (hT : tookL (newAl 20) (wordsN cells raw) = some (L', a)) (hP : rdV x = hdV k c rr nn col z d) (hG : goodW x (wordsN cells raw) = false) (hR : rightB k c rr nn col = true) (hW : hdW k c rr nn col z d = x) (hS : ¬ wordsN c rr = wordsN cells raw) :
    Calls Tryz.prog 10 #[.int .i64 (kind : Nat), .int .i64 (cells : Nat), .int .i64 (raw : Nat), .int .u64 (x : Nat)] w fun e w' => e = .returned (.bool true) ∧ Below w.heap.size w w' := by
  have HA := Lib.hid (alive11 w)
  have HN := Lib.hid (fun (o : Own) (w1 : World) (ho : Owned o w1) => show Calls Tryz.prog 48 #[.int .i64 20, .int .i64 0] w1 (SpaceNew o w1 1 20) from space_new 1 20 w1 ho (by omega) (by omega))
  have HM := Lib.hid (fun (o : Own) (p : Nat) (w1 : World) (ho : Owned o w1) (S : SpaceRep o w1 1 p (newAl 20) (fun _ => none)) => dm_make kind cells raw L' w1 w1 (Fr.refl ho) S hk (by omega) (by omega) hT)
  have HH := Lib.hid (fun (o : Own) (p pa : Nat) (w0 w1 : World) (F : Fr 0 0 o o w0 w1) (D : Dm o w0 p pa a (wordsN cells raw) x) => show Calls Tryz.prog 54 #[.pointer (some ⟨p, 0, none⟩), .int .i64 (a : Nat)] w1 fun e w' => e = .returned (.tuple #[hdV 0 0 0 0 0 false false, .int .i64 3]) ∧ Fr 0 0 o o w0 w' from
    (dm_head w0 w1 F D).mono fun e w' hh => ⟨by rw [hh.1, hG]; rfl, hh.2⟩)
  have HL := Lib.hid (fun (o : Own) (p pa : Nat) (w0 w1 : World) (F : Fr 0 0 o o w0 w1) (D : Dm o w0 p pa a (wordsN cells raw) x) => show Calls Tryz.prog 58 #[.pointer (some ⟨p, 0, none⟩)] w1 fun e w' => ∃ A cap, e = .returned (.slice A 0 cap) ∧ Fr 0 0 o o w0 w' from
    (dm_all w0 w1 F D).mono fun e w' hh => by
      obtain ⟨A, cap, h1, h2⟩ := hh
      rw [hG] at h1
      exact ⟨A, cap, h1, h2⟩)
  have HZ := Lib.hid (fun (o : Own) (p pa : Nat) (w0 w1 : World) (F : Fr 0 0 o o w0 w1) (D : Dm o w0 p pa a (wordsN cells raw) (hdW kind cells raw 0 0 false false)) => show Calls Tryz.prog 54 #[.pointer (some ⟨p, 0, none⟩), .int .i64 (a : Nat)] w1 fun e w' => e = .returned (.tuple #[hdV kind cells raw 0 0 false false, .int .i64 0]) ∧ Fr 0 0 o o w0 w' from
    (dm_head w0 w1 F D).mono fun e w' hh => ⟨by rw [hh.1, if_pos (good_new hk (by omega) (by omega)), rdV_hdW hk.2 (by omega) (by omega) (by omega) (by omega)]; rfl, hh.2⟩)
  have HRD := Lib.hid (fun W => show Calls Tryz.prog 55 #[.int .u64 (x : Nat)] W fun e w' => e = .returned (hdV k c rr nn col z d) ∧ Below W.heap.size W w' from by rw [← hP]; exact ref_read x hx W)
  have HRR := Lib.hid (fun W => show Calls Tryz.prog 56 #[hdV k c rr nn col z d] W fun e w' => e = .returned (.bool true) ∧ Below W.heap.size W w' from by rw [← hR]; exact ref_right k c rr nn col z d W)
  have hb := hR
  simp only [rightB, inB, Bool.and_eq_true, decide_eq_true_eq] at hb
  have hb1 : (c : Int) ≤ 4000 := by omega
  have hb2 : (rr : Int) ≤ 4000 := by omega
  clear hb
  have HWD := Lib.hid (fun W => show Calls Tryz.prog 57 #[hdV k c rr nn col z d] W fun e w' => e = .returned (.int .u64 (x : Nat)) ∧ Below W.heap.size W w' from by rw [← hW]; exact ref_word_yes k c rr nn col z d hR W)
  have hq : ((1 + 2 * (c : Int) + ((rr : Int) + 7) / 8) == (1 + 2 * (cells : Int) + ((raw : Int) + 7) / 8)) = false := by
    have h2 : ¬ 1 + 2 * c + (rr + 7) / 8 = 1 + 2 * cells + (raw + 7) / 8 := hS
    have h3 : ¬ (1 + 2 * (c : Int) + ((rr : Int) + 7) / 8) = (1 + 2 * (cells : Int) + ((raw : Int) + 7) / 8) := by omega
    simpa using h3
  have k1 : ¬ (kind : Int) < 1 := by omega
  have k2 : ¬ 8 < (kind : Int) := by omega
  have c1 : ¬ (cells : Int) < 0 := by omega
  have c2 : ¬ 20 < (cells : Int) := by omega
  have r1 : ¬ (raw : Int) < 0 := by omega
  have r2 : ¬ 50 < (raw : Int) := by omega
  have HX := Lib.hid hx
  have HXN := Lib.hid (hdW_lt (z := false) (d := false) (n := 0) (col := 0) hk.2 (show cells ≤ 4000 by omega) (show raw ≤ 4000 by omega) (by omega) (by omega))
  clear hk hc hr hx hT hP hG hR hW hS
  generalize wordsN cells raw = n at *
  generalize hdW kind cells raw 0 0 false false = hd at *
  go_enter Tryz.func10, Tryz.ntmps10
  go_wp2_with fail
  go_at_call 47
  refine HA.out.mono ?_
  rintro e w1 ⟨rfl, hb⟩
  have HF1 := Lib.hid (LF.of_below hb)
  clear hb
  go_wp2_with fail
  go_at_call 48
  refine (HN.out _ _ HF1.out.fresh).mono ?_
  rintro e w2 ⟨p, o2, rfl, F2, S2⟩
  have HF2 := Lib.hid (HF1.out.fr F2 (by omega))
  have HS2 := Lib.hid S2
  clear F2 S2
  go_wp2_with fail
  go_at_call 49
  refine (HM.out _ _ _ HF2.out.fresh HS2.out).mono ?_
  rintro e w3 ⟨rfl, o3, pa, F3, D3⟩
  have HF3 := Lib.hid (HF2.out.fr F3 (by omega))
  have HD3 := Lib.hid D3
  clear F3 D3 HS2
  go_wp2_with (first
    | (go_at_call 50; refine (num11 _ _).mono ?_; rintro e w' ⟨rfl, rfl⟩)
    | (go_at_call 51; refine (dm_arena w3 _ (Fr.refl HF3.out.fresh) HD3.out).mono ?_; rintro e w' ⟨rfl, rfl⟩))
  go_at_call 52
  refine (dm_read w3 _ (Fr.refl HF3.out.fresh) HD3.out).mono ?_
  rintro e w' ⟨rfl, rfl⟩
  go_wp2_with (go_at_call 51; refine (dm_arena w3 _ (Fr.refl HF3.out.fresh) HD3.out).mono ?_; rintro e w' ⟨rfl, rfl⟩)
  go_at_call 53
  refine (dm_write x w3 _ (Fr.refl HF3.out.fresh) HD3.out HX.out).mono ?_
  rintro e w4 ⟨rfl, o4, F4, D4⟩
  have HF4 := Lib.hid (HF3.out.fr F4 (by omega))
  have HD4 := Lib.hid D4
  clear F4 D4 HD3
  go_wp2_with fail
  go_at_call 54
  refine (HH.out _ _ _ w4 _ (Fr.refl HF4.out.fresh) HD4.out).mono ?_
  rintro e w5 ⟨rfl, F5⟩
  have HF5 := Lib.hid F5
  clear F5
  go_wp2_with fail
  go_at_call 55
  refine (HRD.out _).mono ?_
  rintro e w6 ⟨rfl, hb6⟩
  have HX6 := Lib.hid ((HdC.new (w := w5) (k := 0) (c := 0) (rr := 0) (nn := 0) (col := 0) (z := false) (d := false)).fr (Fr.below (Fr.refl (lo := 0) (hi := 0) (HF5.out.alloc _).fresh) hb6))
  have HF6 := Lib.hid ((HF5.out.alloc _).below hb6)
  clear hb6
  go_wp2_with fail
  go_at_call 56
  refine (HRR.out _).mono ?_
  rintro e w7 ⟨rfl, hb7⟩
  have HX7 := Lib.hid (HX6.out.fr (Fr.below ((Fr.refl (lo := 0) (hi := 0) HF6.out.fresh).alloc _) hb7))
  have HY7 := Lib.hid ((HdC.new (w := w6) (k := k) (c := c) (rr := rr) (nn := nn) (col := col) (z := z) (d := d)).fr (Fr.below (Fr.refl (lo := 0) (hi := 0) (HF6.out.alloc _).fresh) hb7))
  have HF7 := Lib.hid ((HF6.out.alloc _).below hb7)
  clear hb7
  obtain ⟨y0, y1, y2, y3, y4, y5, y6, yl⟩ := HY7.out.cells
  go_wp2_with fail
  go_at_call 57
  refine (HWD.out _).mono ?_
  rintro e w8 ⟨rfl, hb8⟩
  have HX8 := Lib.hid (HX7.out.fr (Fr.below (Fr.refl (lo := 0) (hi := 0) HF7.out.fresh) hb8))
  have HY8 := Lib.hid (HY7.out.fr (Fr.below (Fr.refl (lo := 0) (hi := 0) HF7.out.fresh) hb8))
  have HF8 := Lib.hid (HF7.out.below hb8)
  clear hb8 y0 y1 y2 y3 y4 y5 y6 yl
  obtain ⟨y0, y1, y2, y3, y4, y5, y6, yl⟩ := HY8.out.cells
  go_wp2_with (first
    | (go_at_call 50; refine (num11 _ _).mono ?_; rintro e w' ⟨rfl, rfl⟩)
    | (go_at_call 58; refine (HL.out _ _ _ w4 _ HF8.out HD4.out).mono ?_; rintro e w9 ⟨A9, cap9, rfl, F9⟩; have HF9 := Lib.hid F9; clear F9)
    | (go_at_call 51; refine (dm_arena w4 _ HF9.out HD4.out).mono ?_; rintro e w' ⟨rfl, rfl⟩))
  go_at_call 53
  refine (dm_write hd w4 _ HF9.out HD4.out HXN.out).mono ?_
  rintro e w10 ⟨rfl, o10, F10, D10⟩
  have HF10 := Lib.hid (HF4.out.fr F10 (by omega))
  have HD10 := Lib.hid D10
  clear F10 D10
  go_wp2_with fail
  go_at_call 54
  refine (HZ.out _ _ _ w10 _ (Fr.refl HF10.out.fresh) HD10.out).mono ?_
  rintro e w11 ⟨rfl, F11⟩
  have HF11 := Lib.hid (HF10.out.fr F11 (by omega))
  clear F11
  have hev := eqlH kind cells raw 0 0 false false
  go_wp2_with (go_at_call 50; refine (num11 _ _).mono ?_; rintro e w' ⟨rfl, rfl⟩)
  go_ret
  exact ⟨rfl, (HF11.out.alloc _).tob⟩
set_option maxRecDepth 100000 in
set_option maxHeartbeats 4000000 in
theorem dam_word (kind cells raw x : Nat) (k c rr nn col : Nat) (z d : Bool) (L' : Al) (a : Nat) (w : World) (hk : 1 ≤ kind ∧ kind ≤ 8) (hc : cells ≤ 20) (hr : raw ≤ 50) (hx : x < 2 ^ 64) (hT : tookL (newAl 20) (wordsN cells raw) = some (L', a)) (hP : rdV x = hdV k c rr nn col z d) (hG : goodW x (wordsN cells raw) = false) (hR : rightB k c rr nn col = true) (hW : ¬ hdW k c rr nn col z d = x) :
    Calls Tryz.prog 10 #[.int .i64 (kind : Nat), .int .i64 (cells : Nat), .int .i64 (raw : Nat), .int .u64 (x : Nat)] w fun e w' => e = .returned (.bool true) ∧ Below w.heap.size w w' := by
  have HA := Lib.hid (alive11 w)
  have HN := Lib.hid (fun (o : Own) (w1 : World) (ho : Owned o w1) => show Calls Tryz.prog 48 #[.int .i64 20, .int .i64 0] w1 (SpaceNew o w1 1 20) from space_new 1 20 w1 ho (by omega) (by omega))
  have HM := Lib.hid (fun (o : Own) (p : Nat) (w1 : World) (ho : Owned o w1) (S : SpaceRep o w1 1 p (newAl 20) (fun _ => none)) => dm_make kind cells raw L' w1 w1 (Fr.refl ho) S hk (by omega) (by omega) hT)
  have HH := Lib.hid (fun (o : Own) (p pa : Nat) (w0 w1 : World) (F : Fr 0 0 o o w0 w1) (D : Dm o w0 p pa a (wordsN cells raw) x) => show Calls Tryz.prog 54 #[.pointer (some ⟨p, 0, none⟩), .int .i64 (a : Nat)] w1 fun e w' => e = .returned (.tuple #[hdV 0 0 0 0 0 false false, .int .i64 3]) ∧ Fr 0 0 o o w0 w' from
    (dm_head w0 w1 F D).mono fun e w' hh => ⟨by rw [hh.1, hG]; rfl, hh.2⟩)
  have HL := Lib.hid (fun (o : Own) (p pa : Nat) (w0 w1 : World) (F : Fr 0 0 o o w0 w1) (D : Dm o w0 p pa a (wordsN cells raw) x) => show Calls Tryz.prog 58 #[.pointer (some ⟨p, 0, none⟩)] w1 fun e w' => ∃ A cap, e = .returned (.slice A 0 cap) ∧ Fr 0 0 o o w0 w' from
    (dm_all w0 w1 F D).mono fun e w' hh => by
      obtain ⟨A, cap, h1, h2⟩ := hh
      rw [hG] at h1
      exact ⟨A, cap, h1, h2⟩)
  have HZ := Lib.hid (fun (o : Own) (p pa : Nat) (w0 w1 : World) (F : Fr 0 0 o o w0 w1) (D : Dm o w0 p pa a (wordsN cells raw) (hdW kind cells raw 0 0 false false)) => show Calls Tryz.prog 54 #[.pointer (some ⟨p, 0, none⟩), .int .i64 (a : Nat)] w1 fun e w' => e = .returned (.tuple #[hdV kind cells raw 0 0 false false, .int .i64 0]) ∧ Fr 0 0 o o w0 w' from
    (dm_head w0 w1 F D).mono fun e w' hh => ⟨by rw [hh.1, if_pos (good_new hk (by omega) (by omega)), rdV_hdW hk.2 (by omega) (by omega) (by omega) (by omega)]; rfl, hh.2⟩)
  have HRD := Lib.hid (fun W => show Calls Tryz.prog 55 #[.int .u64 (x : Nat)] W fun e w' => e = .returned (hdV k c rr nn col z d) ∧ Below W.heap.size W w' from by rw [← hP]; exact ref_read x hx W)
  have HRR := Lib.hid (fun W => show Calls Tryz.prog 56 #[hdV k c rr nn col z d] W fun e w' => e = .returned (.bool true) ∧ Below W.heap.size W w' from by rw [← hR]; exact ref_right k c rr nn col z d W)
  have hb := hR
  simp only [rightB, inB, Bool.and_eq_true, decide_eq_true_eq] at hb
  have hb1 : (c : Int) ≤ 4000 := by omega
  have hb2 : (rr : Int) ≤ 4000 := by omega
  clear hb
  have HWD := Lib.hid (fun W => show Calls Tryz.prog 57 #[hdV k c rr nn col z d] W fun e w' => e = .returned (.int .u64 (hdW k c rr nn col z d : Nat)) ∧ Below W.heap.size W w' from ref_word_yes k c rr nn col z d hR W)
  have hq : ((hdW k c rr nn col z d : Int) == (x : Int)) = false := by
    have h3 : ¬ ((hdW k c rr nn col z d : Nat) : Int) = (x : Int) := by omega
    simpa using h3
  have k1 : ¬ (kind : Int) < 1 := by omega
  have k2 : ¬ 8 < (kind : Int) := by omega
  have c1 : ¬ (cells : Int) < 0 := by omega
  have c2 : ¬ 20 < (cells : Int) := by omega
  have r1 : ¬ (raw : Int) < 0 := by omega
  have r2 : ¬ 50 < (raw : Int) := by omega
  have HX := Lib.hid hx
  have HXN := Lib.hid (hdW_lt (z := false) (d := false) (n := 0) (col := 0) hk.2 (show cells ≤ 4000 by omega) (show raw ≤ 4000 by omega) (by omega) (by omega))
  generalize hdW k c rr nn col z d = hw at *
  clear hk hc hr hx hT hP hG hR hW
  generalize wordsN cells raw = n at *
  generalize hdW kind cells raw 0 0 false false = hd at *
  go_enter Tryz.func10, Tryz.ntmps10
  go_wp2_with fail
  go_at_call 47
  refine HA.out.mono ?_
  rintro e w1 ⟨rfl, hb⟩
  have HF1 := Lib.hid (LF.of_below hb)
  clear hb
  go_wp2_with fail
  go_at_call 48
  refine (HN.out _ _ HF1.out.fresh).mono ?_
  rintro e w2 ⟨p, o2, rfl, F2, S2⟩
  have HF2 := Lib.hid (HF1.out.fr F2 (by omega))
  have HS2 := Lib.hid S2
  clear F2 S2
  go_wp2_with fail
  go_at_call 49
  refine (HM.out _ _ _ HF2.out.fresh HS2.out).mono ?_
  rintro e w3 ⟨rfl, o3, pa, F3, D3⟩
  have HF3 := Lib.hid (HF2.out.fr F3 (by omega))
  have HD3 := Lib.hid D3
  clear F3 D3 HS2
  go_wp2_with (first
    | (go_at_call 50; refine (num11 _ _).mono ?_; rintro e w' ⟨rfl, rfl⟩)
    | (go_at_call 51; refine (dm_arena w3 _ (Fr.refl HF3.out.fresh) HD3.out).mono ?_; rintro e w' ⟨rfl, rfl⟩))
  go_at_call 52
  refine (dm_read w3 _ (Fr.refl HF3.out.fresh) HD3.out).mono ?_
  rintro e w' ⟨rfl, rfl⟩
  go_wp2_with (go_at_call 51; refine (dm_arena w3 _ (Fr.refl HF3.out.fresh) HD3.out).mono ?_; rintro e w' ⟨rfl, rfl⟩)
  go_at_call 53
  refine (dm_write x w3 _ (Fr.refl HF3.out.fresh) HD3.out HX.out).mono ?_
  rintro e w4 ⟨rfl, o4, F4, D4⟩
  have HF4 := Lib.hid (HF3.out.fr F4 (by omega))
  have HD4 := Lib.hid D4
  clear F4 D4 HD3
  go_wp2_with fail
  go_at_call 54
  refine (HH.out _ _ _ w4 _ (Fr.refl HF4.out.fresh) HD4.out).mono ?_
  rintro e w5 ⟨rfl, F5⟩
  have HF5 := Lib.hid F5
  clear F5
  go_wp2_with fail
  go_at_call 55
  refine (HRD.out _).mono ?_
  rintro e w6 ⟨rfl, hb6⟩
  have HX6 := Lib.hid ((HdC.new (w := w5) (k := 0) (c := 0) (rr := 0) (nn := 0) (col := 0) (z := false) (d := false)).fr (Fr.below (Fr.refl (lo := 0) (hi := 0) (HF5.out.alloc _).fresh) hb6))
  have HF6 := Lib.hid ((HF5.out.alloc _).below hb6)
  clear hb6
  go_wp2_with fail
  go_at_call 56
  refine (HRR.out _).mono ?_
  rintro e w7 ⟨rfl, hb7⟩
  have HX7 := Lib.hid (HX6.out.fr (Fr.below ((Fr.refl (lo := 0) (hi := 0) HF6.out.fresh).alloc _) hb7))
  have HY7 := Lib.hid ((HdC.new (w := w6) (k := k) (c := c) (rr := rr) (nn := nn) (col := col) (z := z) (d := d)).fr (Fr.below (Fr.refl (lo := 0) (hi := 0) (HF6.out.alloc _).fresh) hb7))
  have HF7 := Lib.hid ((HF6.out.alloc _).below hb7)
  clear hb7
  obtain ⟨y0, y1, y2, y3, y4, y5, y6, yl⟩ := HY7.out.cells
  go_wp2_with fail
  go_at_call 57
  refine (HWD.out _).mono ?_
  rintro e w8 ⟨rfl, hb8⟩
  have HX8 := Lib.hid (HX7.out.fr (Fr.below (Fr.refl (lo := 0) (hi := 0) HF7.out.fresh) hb8))
  have HY8 := Lib.hid (HY7.out.fr (Fr.below (Fr.refl (lo := 0) (hi := 0) HF7.out.fresh) hb8))
  have HF8 := Lib.hid (HF7.out.below hb8)
  clear hb8 y0 y1 y2 y3 y4 y5 y6 yl
  go_wp2_with (first
    | (go_at_call 50; refine (num11 _ _).mono ?_; rintro e w' ⟨rfl, rfl⟩)
    | (go_at_call 58; refine (HL.out _ _ _ w4 _ HF8.out HD4.out).mono ?_; rintro e w9 ⟨A9, cap9, rfl, F9⟩; have HF9 := Lib.hid F9; clear F9)
    | (go_at_call 51; refine (dm_arena w4 _ HF9.out HD4.out).mono ?_; rintro e w' ⟨rfl, rfl⟩))
  go_at_call 53
  refine (dm_write hd w4 _ HF9.out HD4.out HXN.out).mono ?_
  rintro e w10 ⟨rfl, o10, F10, D10⟩
  have HF10 := Lib.hid (HF4.out.fr F10 (by omega))
  have HD10 := Lib.hid D10
  clear F10 D10
  go_wp2_with fail
  go_at_call 54
  refine (HZ.out _ _ _ w10 _ (Fr.refl HF10.out.fresh) HD10.out).mono ?_
  rintro e w11 ⟨rfl, F11⟩
  have HF11 := Lib.hid (HF10.out.fr F11 (by omega))
  clear F11
  have hev := eqlH kind cells raw 0 0 false false
  go_wp2_with (go_at_call 50; refine (num11 _ _).mono ?_; rintro e w' ⟨rfl, rfl⟩)
  go_ret
  exact ⟨rfl, (HF11.out.alloc _).tob⟩
set_option maxRecDepth 100000 in
set_option maxHeartbeats 4000000 in
theorem dam_right (kind cells raw x : Nat) (k c rr nn col : Nat) (z d : Bool) (L' : Al) (a : Nat) (w : World) (hk : 1 ≤ kind ∧ kind ≤ 8) (hc : cells ≤ 20) (hr : raw ≤ 50) (hx : x < 2 ^ 64) (hT : tookL (newAl 20) (wordsN cells raw) = some (L', a)) (hP : rdV x = hdV k c rr nn col z d) (hG : goodW x (wordsN cells raw) = false) (hR : rightB k c rr nn col = false) :
    Calls Tryz.prog 10 #[.int .i64 (kind : Nat), .int .i64 (cells : Nat), .int .i64 (raw : Nat), .int .u64 (x : Nat)] w fun e w' => e = .returned (.bool true) ∧ Below w.heap.size w w' := by
  have HA := Lib.hid (alive11 w)
  have HN := Lib.hid (fun (o : Own) (w1 : World) (ho : Owned o w1) => show Calls Tryz.prog 48 #[.int .i64 20, .int .i64 0] w1 (SpaceNew o w1 1 20) from space_new 1 20 w1 ho (by omega) (by omega))
  have HM := Lib.hid (fun (o : Own) (p : Nat) (w1 : World) (ho : Owned o w1) (S : SpaceRep o w1 1 p (newAl 20) (fun _ => none)) => dm_make kind cells raw L' w1 w1 (Fr.refl ho) S hk (by omega) (by omega) hT)
  have HH := Lib.hid (fun (o : Own) (p pa : Nat) (w0 w1 : World) (F : Fr 0 0 o o w0 w1) (D : Dm o w0 p pa a (wordsN cells raw) x) => show Calls Tryz.prog 54 #[.pointer (some ⟨p, 0, none⟩), .int .i64 (a : Nat)] w1 fun e w' => e = .returned (.tuple #[hdV 0 0 0 0 0 false false, .int .i64 3]) ∧ Fr 0 0 o o w0 w' from
    (dm_head w0 w1 F D).mono fun e w' hh => ⟨by rw [hh.1, hG]; rfl, hh.2⟩)
  have HL := Lib.hid (fun (o : Own) (p pa : Nat) (w0 w1 : World) (F : Fr 0 0 o o w0 w1) (D : Dm o w0 p pa a (wordsN cells raw) x) => show Calls Tryz.prog 58 #[.pointer (some ⟨p, 0, none⟩)] w1 fun e w' => ∃ A cap, e = .returned (.slice A 0 cap) ∧ Fr 0 0 o o w0 w' from
    (dm_all w0 w1 F D).mono fun e w' hh => by
      obtain ⟨A, cap, h1, h2⟩ := hh
      rw [hG] at h1
      exact ⟨A, cap, h1, h2⟩)
  have HZ := Lib.hid (fun (o : Own) (p pa : Nat) (w0 w1 : World) (F : Fr 0 0 o o w0 w1) (D : Dm o w0 p pa a (wordsN cells raw) (hdW kind cells raw 0 0 false false)) => show Calls Tryz.prog 54 #[.pointer (some ⟨p, 0, none⟩), .int .i64 (a : Nat)] w1 fun e w' => e = .returned (.tuple #[hdV kind cells raw 0 0 false false, .int .i64 0]) ∧ Fr 0 0 o o w0 w' from
    (dm_head w0 w1 F D).mono fun e w' hh => ⟨by rw [hh.1, if_pos (good_new hk (by omega) (by omega)), rdV_hdW hk.2 (by omega) (by omega) (by omega) (by omega)]; rfl, hh.2⟩)
  have HRD := Lib.hid (fun W => show Calls Tryz.prog 55 #[.int .u64 (x : Nat)] W fun e w' => e = .returned (hdV k c rr nn col z d) ∧ Below W.heap.size W w' from by rw [← hP]; exact ref_read x hx W)
  have HRR := Lib.hid (fun W => show Calls Tryz.prog 56 #[hdV k c rr nn col z d] W fun e w' => e = .returned (.bool false) ∧ Below W.heap.size W w' from by rw [← hR]; exact ref_right k c rr nn col z d W)
  have k1 : ¬ (kind : Int) < 1 := by omega
  have k2 : ¬ 8 < (kind : Int) := by omega
  have c1 : ¬ (cells : Int) < 0 := by omega
  have c2 : ¬ 20 < (cells : Int) := by omega
  have r1 : ¬ (raw : Int) < 0 := by omega
  have r2 : ¬ 50 < (raw : Int) := by omega
  have HX := Lib.hid hx
  have HXN := Lib.hid (hdW_lt (z := false) (d := false) (n := 0) (col := 0) hk.2 (show cells ≤ 4000 by omega) (show raw ≤ 4000 by omega) (by omega) (by omega))
  clear hk hc hr hx hT hP hG hR
  generalize wordsN cells raw = n at *
  generalize hdW kind cells raw 0 0 false false = hd at *
  go_enter Tryz.func10, Tryz.ntmps10
  go_wp2_with fail
  go_at_call 47
  refine HA.out.mono ?_
  rintro e w1 ⟨rfl, hb⟩
  have HF1 := Lib.hid (LF.of_below hb)
  clear hb
  go_wp2_with fail
  go_at_call 48
  refine (HN.out _ _ HF1.out.fresh).mono ?_
  rintro e w2 ⟨p, o2, rfl, F2, S2⟩
  have HF2 := Lib.hid (HF1.out.fr F2 (by omega))
  have HS2 := Lib.hid S2
  clear F2 S2
  go_wp2_with fail
  go_at_call 49
  refine (HM.out _ _ _ HF2.out.fresh HS2.out).mono ?_
  rintro e w3 ⟨rfl, o3, pa, F3, D3⟩
  have HF3 := Lib.hid (HF2.out.fr F3 (by omega))
  have HD3 := Lib.hid D3
  clear F3 D3 HS2
  go_wp2_with (first
    | (go_at_call 50; refine (num11 _ _).mono ?_; rintro e w' ⟨rfl, rfl⟩)
    | (go_at_call 51; refine (dm_arena w3 _ (Fr.refl HF3.out.fresh) HD3.out).mono ?_; rintro e w' ⟨rfl, rfl⟩))
  go_at_call 52
  refine (dm_read w3 _ (Fr.refl HF3.out.fresh) HD3.out).mono ?_
  rintro e w' ⟨rfl, rfl⟩
  go_wp2_with (go_at_call 51; refine (dm_arena w3 _ (Fr.refl HF3.out.fresh) HD3.out).mono ?_; rintro e w' ⟨rfl, rfl⟩)
  go_at_call 53
  refine (dm_write x w3 _ (Fr.refl HF3.out.fresh) HD3.out HX.out).mono ?_
  rintro e w4 ⟨rfl, o4, F4, D4⟩
  have HF4 := Lib.hid (HF3.out.fr F4 (by omega))
  have HD4 := Lib.hid D4
  clear F4 D4 HD3
  go_wp2_with fail
  go_at_call 54
  refine (HH.out _ _ _ w4 _ (Fr.refl HF4.out.fresh) HD4.out).mono ?_
  rintro e w5 ⟨rfl, F5⟩
  have HF5 := Lib.hid F5
  clear F5
  go_wp2_with fail
  go_at_call 55
  refine (HRD.out _).mono ?_
  rintro e w6 ⟨rfl, hb6⟩
  have HX6 := Lib.hid ((HdC.new (w := w5) (k := 0) (c := 0) (rr := 0) (nn := 0) (col := 0) (z := false) (d := false)).fr (Fr.below (Fr.refl (lo := 0) (hi := 0) (HF5.out.alloc _).fresh) hb6))
  have HF6 := Lib.hid ((HF5.out.alloc _).below hb6)
  clear hb6
  go_wp2_with fail
  go_at_call 56
  refine (HRR.out _).mono ?_
  rintro e w7 ⟨rfl, hb7⟩
  have HX7 := Lib.hid (HX6.out.fr (Fr.below ((Fr.refl (lo := 0) (hi := 0) HF6.out.fresh).alloc _) hb7))
  have HY7 := Lib.hid ((HdC.new (w := w6) (k := k) (c := c) (rr := rr) (nn := nn) (col := col) (z := z) (d := d)).fr (Fr.below (Fr.refl (lo := 0) (hi := 0) (HF6.out.alloc _).fresh) hb7))
  have HF7 := Lib.hid ((HF6.out.alloc _).below hb7)
  clear hb7
  go_wp2_with (first
    | (go_at_call 50; refine (num11 _ _).mono ?_; rintro e w' ⟨rfl, rfl⟩)
    | (go_at_call 58; refine (HL.out _ _ _ w4 _ HF7.out HD4.out).mono ?_; rintro e w9 ⟨A9, cap9, rfl, F9⟩; have HF9 := Lib.hid F9; clear F9)
    | (go_at_call 51; refine (dm_arena w4 _ HF9.out HD4.out).mono ?_; rintro e w' ⟨rfl, rfl⟩))
  go_at_call 53
  refine (dm_write hd w4 _ HF9.out HD4.out HXN.out).mono ?_
  rintro e w10 ⟨rfl, o10, F10, D10⟩
  have HF10 := Lib.hid (HF4.out.fr F10 (by omega))
  have HD10 := Lib.hid D10
  clear F10 D10
  go_wp2_with fail
  go_at_call 54
  refine (HZ.out _ _ _ w10 _ (Fr.refl HF10.out.fresh) HD10.out).mono ?_
  rintro e w11 ⟨rfl, F11⟩
  have HF11 := Lib.hid (HF10.out.fr F11 (by omega))
  clear F11
  have hev := eqlH kind cells raw 0 0 false false
  go_wp2_with (go_at_call 50; refine (num11 _ _).mono ?_; rintro e w' ⟨rfl, rfl⟩)
  go_ret
  exact ⟨rfl, (HF11.out.alloc _).tob⟩
theorem dam_walk (kind cells raw x : Int) (w : World) (wx : (Lit.int .u64 x).wf = true) : Calls Tryz.prog 10 #[.int .i64 kind, .int .i64 cells, .int .i64 raw, .int .u64 x] w fun e w' => e = .returned (.bool true) ∧ Below w.heap.size w w' := by
  by_cases h : kind < 1 ∨ 8 < kind ∨ cells < 0 ∨ 20 < cells ∨ raw < 0 ∨ 50 < raw
  · exact dam_out kind cells raw x w h
  · have hx : 0 ≤ x ∧ x < 18446744073709551616 := by
      simp [Lit.wf, IntKind.min, IntKind.max, IntKind.signed, IntKind.bits] at wx; omega
    obtain ⟨kind, rfl⟩ := Int.eq_ofNat_of_zero_le (show 0 ≤ kind by omega)
    obtain ⟨cells, rfl⟩ := Int.eq_ofNat_of_zero_le (show 0 ≤ cells by omega)
    obtain ⟨raw, rfl⟩ := Int.eq_ofNat_of_zero_le (show 0 ≤ raw by omega)
    obtain ⟨x, rfl⟩ := Int.eq_ofNat_of_zero_le hx.1
    obtain ⟨L', a, hT, _⟩ := tookL_room (newAl 20) (wordsN cells raw) (by
      have hw : wordsN cells raw = 1 + 2 * cells + (raw + 7) / 8 := rfl
      show 1 + (wordsN cells raw / 64 + 1) ≤ 20
      omega)
    obtain ⟨k, c, rr, nn, col, z, d, hP, hg⟩ := rd_parts x
    have hG := hg (wordsN cells raw)
    cases hR : rightB (k : Int) c rr nn col with
    | false =>
      rw [hR] at hG
      exact dam_right kind cells raw x k c rr nn col z d L' a w (by omega) (by omega) (by omega) (by omega) hT hP hG hR
    | true =>
      rw [hR] at hG
      by_cases hW : hdW k c rr nn col z d = x
      · by_cases hS : wordsN c rr = wordsN cells raw
        · exact dam_good kind cells raw x k c rr nn col z d L' a w (by omega) (by omega) (by omega) (by omega) hT hP (by rw [hG, hW, hS]; simp) hR hW hS
        · exact dam_size kind cells raw x k c rr nn col z d L' a w (by omega) (by omega) (by omega) (by omega) hT hP (by rw [hG, hW]; simpa using hS) hR hW hS
      · exact dam_word kind cells raw x k c rr nn col z d L' a w (by omega) (by omega) (by omega) (by omega) hT hP (by rw [hG]; simp [hW]) hR hW
end Go.Proofs.YtlpklloagaccoaaGreat
