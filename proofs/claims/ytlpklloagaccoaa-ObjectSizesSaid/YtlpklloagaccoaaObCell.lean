/- Objects' cells are read (object.cell, Cell). Conditions: the space is as one that was made. -/
import Derived.Test.YtlpklloagaccoaaObHead
import Derived.Outline
namespace Go.Proofs.Ytlpklloagaccoaa
open Go.RowKit
set_option linter.unusedVariables false

set_option maxRecDepth 100000 in
theorem ocell_yes {o : Own} {r p : Nat} {L : Al} {ob : Int → Option Ob} (h : Int) (i : Int) (x : Ob) (a k : Nat) (w : World) (ho : Owned o w) (S : SpaceRep o w r p L ob) (hx : ob h = some x) (ha : h = a) (hi : i = k) (hk : k < x.cells) :
    Calls Try.prog 28 #[.pointer (some ⟨p, 0, none⟩), .int .i64 h, .int .i64 i] w fun e w' => e = .returned (.tuple #[.int .i64 (a + 1 + 2 * k : Nat), .int .i64 0]) ∧ Below w.heap.size w w' := by
  have HHd := Lib.hid (ohead_yes h x w ho S hx)
  obtain ⟨pa, A, S⟩ := S
  obtain ⟨a', ha', h64, hrange, hat⟩ := S.ok.range hx
  have hn := S.ok.ok.tn
  have hrange : a' + wordsN x.cells x.raw ≤ A.n * 64 := hrange
  obtain ⟨g, q, l, b, v, f, AR⟩ := S.ar
  have hn4 := AR.n1
  have hc1 := hat.c1
  have haa : a' = a := by omega
  subst haa hi
  have hi0 : (0 : Int) ≤ (k : Int) := by omega
  have hk' : (k : Int) < (x.cells : Int) := by omega
  have hk4 : (k : Int) ≤ 4000 := by omega
  have ha4 : (a' : Int) ≤ 262144 := by omega
  subst ha
  clear S AR hat hrange hx ho ha' hn4 hn hc1 h64
  go_enter Try.func28, Try.ntmps28
  go_wp2_with fail
  go_at_call 30
  refine HHd.out.mono ?_
  rintro e w1 ⟨col, z, hcol, rfl, hb1⟩
  have HB1 := Lib.hid hb1
  clear hb1
  go_wp2_with fail
  go_ret2
  exact ⟨by first | rfl | go_num | (simp; omega), by first | exact HB1.out.alloc HB1.out.size _ | exact HB1.out⟩
theorem ocell_none {o : Own} {r p : Nat} {L : Al} {ob : Int → Option Ob} (h : Int) (i : Int) (w : World) (ho : Owned o w) (S : SpaceRep o w r p L ob) (hx : ob h = none) :
    Calls Try.prog 28 #[.pointer (some ⟨p, 0, none⟩), .int .i64 h, .int .i64 i] w fun e w' => e = .returned (.tuple #[.int .i64 0, .int .i64 3]) ∧ Below w.heap.size w w' := by
  have HHd := Lib.hid (ohead_no h w ho S hx)
  clear S hx ho
  go_enter Try.func28, Try.ntmps28
  go_wp2_with fail
  go_at_call 30
  refine HHd.out.mono ?_
  rintro e w1 ⟨rfl, hb1⟩
  have HB1 := Lib.hid hb1
  clear hb1
  go_wp2_with fail
  go_ret2
  exact ⟨rfl, by first | exact HB1.out.alloc HB1.out.size _ | exact HB1.out⟩
theorem ocell_range {o : Own} {r p : Nat} {L : Al} {ob : Int → Option Ob} (h : Int) (i : Int) (x : Ob) (w : World) (ho : Owned o w) (S : SpaceRep o w r p L ob) (hx : ob h = some x) (hi : i < 0 ∨ (x.cells : Int) ≤ i) :
    Calls Try.prog 28 #[.pointer (some ⟨p, 0, none⟩), .int .i64 h, .int .i64 i] w fun e w' => e = .returned (.tuple #[.int .i64 0, .int .i64 6]) ∧ Below w.heap.size w w' := by
  have HHd := Lib.hid (ohead_yes h x w ho S hx)
  clear S hx ho
  rcases hi with hi | hi
  · go_enter Try.func28, Try.ntmps28
    go_wp2_with fail
    go_at_call 30
    refine HHd.out.mono ?_
    rintro e w1 ⟨col, z, hcol, rfl, hb1⟩
    have HB1 := Lib.hid hb1
    clear hb1
    go_wp2_with fail
    go_ret2
    exact ⟨rfl, by first | exact HB1.out.alloc HB1.out.size _ | exact HB1.out⟩
  · have hi2 : ¬ i < 0 := by omega
    go_enter Try.func28, Try.ntmps28
    go_wp2_with fail
    go_at_call 30
    refine HHd.out.mono ?_
    rintro e w1 ⟨col, z, hcol, rfl, hb1⟩
    have HB1 := Lib.hid hb1
    clear hb1
    go_wp2_with fail
    go_ret2
    exact ⟨rfl, by first | exact HB1.out.alloc HB1.out.size _ | exact HB1.out⟩
/-- A value. -/
abbrev valV (k n : Int) : Value := .agg #[.int .i64 k, .int .i64 n]
set_option maxRecDepth 100000 in
set_option maxHeartbeats 1000000 in
theorem ocellv_yes {o : Own} {r p : Nat} {L : Al} {ob : Int → Option Ob} (h : Int) (i : Int) (x : Ob) (k : Nat) (w : World) (ho : Owned o w) (S : SpaceRep o w r p L ob) (hx : ob h = some x) (hi : i = k) (hk : k < x.cells) :
    Calls Try.prog 11 #[.pointer (some ⟨p, 0, none⟩), .int .i64 h, .int .i64 i] w fun e w' => e = .returned (.tuple #[valV (x.val k).1 (x.val k).2, .int .i64 0]) ∧ Below w.heap.size w w' := by
  obtain ⟨pa, A, S⟩ := S
  obtain ⟨a, ha, h64, hrange, hat⟩ := S.ok.range hx
  have hrange : a + wordsN x.cells x.raw ≤ A.n * 64 := hrange
  have hw : wordsN x.cells x.raw = 1 + 2 * x.cells + (x.raw + 7) / 8 := rfl
  have hv := hat.vals k hk
  have hv1 : A.m (a + 1 + 2 * k) = (x.val k).1 := hv.1
  have hv2 : A.m (a + 1 + 2 * k + 1) = wd64 (x.val k).2 := hv.2
  have hvo := hat.vok k hk
  have HCl := Lib.hid (fun (w1 : World) (G : Grew o w (.cells #[.int .i64 0, .int .i64 0] 33) w1) => show Calls Try.prog 28 #[.pointer (some ⟨p, 0, none⟩), .int .i64 h, .int .i64 i] w1 fun e w' => e = .returned (.tuple #[.int .i64 (a + 1 + 2 * k : Nat), .int .i64 0]) ∧ Grew o w (.cells #[.int .i64 0, .int .i64 0] 33) w' from
    (ocell_yes h i x a k w1 G.fr.fresh ⟨pa, A, S.keep G.fr (.inr (Nat.zero_le _))⟩ hx ha hi hk).mono fun e w' h => ⟨h.1, G.below h.2⟩)
  have HR1 := Lib.hid (fun (w1 : World) (j : Int) (e : j = (a + 1 + 2 * k : Nat)) (F : Fr 0 0 o o w w1) => show Calls Try.prog 29 #[.pointer (some ⟨pa, 0, none⟩), .int .i64 j] w1 fun e w' => e = .returned (.tuple #[.int .u64 ((x.val k).1 : Nat), .int .i64 0]) ∧ w1 = w' from by
    rw [← hv1]; exact aread_any j (a + 1 + 2 * k) w1 (S.ar.keep F (.inr (Nat.zero_le _))) e (by omega))
  have HR2 := Lib.hid (fun (w1 : World) (j : Int) (e : j = (a + 1 + 2 * k + 1 : Nat)) (F : Fr 0 0 o o w w1) => show Calls Try.prog 29 #[.pointer (some ⟨pa, 0, none⟩), .int .i64 j] w1 fun e w' => e = .returned (.tuple #[.int .u64 (wd64 (x.val k).2 : Nat), .int .i64 0]) ∧ w1 = w' from by
    rw [← hv2]; exact aread_any j (a + 1 + 2 * k + 1) w1 (S.ar.keep F (.inr (Nat.zero_le _))) e (by omega))
  obtain ⟨g, q, l, b, v, f, AR⟩ := S.ar
  have hn4 := AR.n1
  have c0 := S.c0
  have HO := Lib.hid ho
  have hpl := S.blk.lt
  have hat4 : ((a + 1 + 2 * k : Nat) : Int) ≤ 262144 := by omega
  have hat0 : (0 : Int) ≤ ((a + 1 + 2 * k : Nat) : Int) := by omega
  have HBK := Lib.hid (wd64_back hvo.2)
  have hq : ((x.val k).1 : Int) ≤ 3 := by omega
  clear S AR hx ha h64 hrange hat hw hv hv1 hv2 hvo hn4 hi hk ho
  generalize (x.val k).1 = kd at *
  generalize (x.val k).2 = nn at *
  obtain ⟨wd, hwd⟩ : ∃ d, d = wd64 nn := ⟨_, rfl⟩
  rw [← hwd] at HBK HR2
  clear hwd
  generalize hAT : a + 1 + 2 * k = at_ at *
  go_enter Try.func11, Try.ntmps11
  go_wp2_with fail
  go_at_call 28
  refine (HCl.out _ (by repeat (first | exact Grew.base HO.out _ | refine Grew.drew ?_ | refine Grew.alloc ?_ _))).mono ?_
  rintro e w1 ⟨rfl, G1⟩
  have F1 := G1.fr
  have R1 := G1.x_
  have y0 : w1.cell? ⟨w.heap.size, 0, none⟩ = some (.int .i64 0) := by simp [World.cell?, R1]
  have y1 : w1.cell? ⟨w.heap.size, 1, none⟩ = some (.int .i64 0) := by simp [World.cell?, R1]
  have z0 : w1.frozen? ⟨w.heap.size, 0, none⟩ = false := by simp [World.frozen?, R1]
  have z1 : w1.frozen? ⟨w.heap.size, 1, none⟩ = false := by simp [World.frozen?, R1]
  have hl1 := lt_of_block R1
  have HB1 := Lib.hid G1.fr.below0
  clear R1 G1
  have c1 := F1.cell0 c0
  have HF1 := Lib.hid F1
  clear F1
  go_wp2_with fail
  go_at_call 29
  refine (HR1.out _ _ rfl HF1.out).mono ?_
  rintro e w2 ⟨rfl, rfl⟩
  go_wp2_with fail
  go_at_call 29
  refine (HR2.out _ _ (by omega) HF1.out).mono ?_
  rintro e w2 ⟨rfl, rfl⟩
  go_wp2_with fail
  have hbk : wrap64 (wd : Int) = nn := by have := HBK.out; rw [IntKind.wrap_i64] at this; unfold wrap64; exact this
  rw [hbk]
  refine bodyPost_ret (v := .tuple #[valV kd nn, .int .i64 0]) ?_ rfl ⟨rfl, ?_⟩
  · simp [results, Try.results11, go_sem, y0, y1]
  · exact ((HB1.out).setCell (Nat.le_refl _) _).setCell (Nat.le_refl _) _
/-- Behind Cell, where there is none. -/
theorem ocellv_none {o : Own} {r p : Nat} {L : Al} {ob : Int → Option Ob} (h : Int) (i : Int) (w : World) (ho : Owned o w) (S : SpaceRep o w r p L ob) (hx : ob h = none) :
    Calls Try.prog 11 #[.pointer (some ⟨p, 0, none⟩), .int .i64 h, .int .i64 i] w fun e w' => e = .returned (.tuple #[valV 0 0, .int .i64 3]) ∧ Below w.heap.size w w' := by
  have HCl := Lib.hid (fun (w1 : World) (G : Grew o w (.cells #[.int .i64 0, .int .i64 0] 33) w1) => show Calls Try.prog 28 #[.pointer (some ⟨p, 0, none⟩), .int .i64 h, .int .i64 i] w1 fun e w' => e = .returned (.tuple #[.int .i64 0, .int .i64 3]) ∧ Grew o w (.cells #[.int .i64 0, .int .i64 0] 33) w' from
    (ocell_none h i w1 G.fr.fresh (S.keep G.fr (.inr (Nat.zero_le _))) hx).mono fun e w' h => ⟨h.1, G.below h.2⟩)
  have HO := Lib.hid ho
  clear S hx ho
  go_enter Try.func11, Try.ntmps11
  go_wp2_with fail
  go_at_call 28
  refine (HCl.out _ (by repeat (first | exact Grew.base HO.out _ | refine Grew.drew ?_ | refine Grew.alloc ?_ _))).mono ?_
  rintro e w1 ⟨rfl, G1⟩
  have R1 := G1.x_
  have y0 : w1.cell? ⟨w.heap.size, 0, none⟩ = some (.int .i64 0) := by simp [World.cell?, R1]
  have y1 : w1.cell? ⟨w.heap.size, 1, none⟩ = some (.int .i64 0) := by simp [World.cell?, R1]
  have z0 : w1.frozen? ⟨w.heap.size, 0, none⟩ = false := by simp [World.frozen?, R1]
  have z1 : w1.frozen? ⟨w.heap.size, 1, none⟩ = false := by simp [World.frozen?, R1]
  have HB1 := Lib.hid G1.fr.below0
  clear R1 G1
  go_wp2_with fail
  refine bodyPost_ret (v := .tuple #[valV 0 0, .int .i64 3]) ?_ rfl ⟨rfl, ?_⟩
  · simp [results, Try.results11, go_sem, y0, y1]
  · exact ((HB1.out).setCell (Nat.le_refl _) _).setCell (Nat.le_refl _) _
theorem ocellv_range {o : Own} {r p : Nat} {L : Al} {ob : Int → Option Ob} (h : Int) (i : Int) (x : Ob) (w : World) (ho : Owned o w) (S : SpaceRep o w r p L ob) (hx : ob h = some x) (hi : i < 0 ∨ (x.cells : Int) ≤ i) :
    Calls Try.prog 11 #[.pointer (some ⟨p, 0, none⟩), .int .i64 h, .int .i64 i] w fun e w' => e = .returned (.tuple #[valV 0 0, .int .i64 6]) ∧ Below w.heap.size w w' := by
  have HCl := Lib.hid (fun (w1 : World) (G : Grew o w (.cells #[.int .i64 0, .int .i64 0] 33) w1) => show Calls Try.prog 28 #[.pointer (some ⟨p, 0, none⟩), .int .i64 h, .int .i64 i] w1 fun e w' => e = .returned (.tuple #[.int .i64 0, .int .i64 6]) ∧ Grew o w (.cells #[.int .i64 0, .int .i64 0] 33) w' from
    (ocell_range h i x w1 G.fr.fresh (S.keep G.fr (.inr (Nat.zero_le _))) hx hi).mono fun e w' h => ⟨h.1, G.below h.2⟩)
  have HO := Lib.hid ho
  clear S hx ho hi
  go_enter Try.func11, Try.ntmps11
  go_wp2_with fail
  go_at_call 28
  refine (HCl.out _ (by repeat (first | exact Grew.base HO.out _ | refine Grew.drew ?_ | refine Grew.alloc ?_ _))).mono ?_
  rintro e w1 ⟨rfl, G1⟩
  have R1 := G1.x_
  have y0 : w1.cell? ⟨w.heap.size, 0, none⟩ = some (.int .i64 0) := by simp [World.cell?, R1]
  have y1 : w1.cell? ⟨w.heap.size, 1, none⟩ = some (.int .i64 0) := by simp [World.cell?, R1]
  have z0 : w1.frozen? ⟨w.heap.size, 0, none⟩ = false := by simp [World.frozen?, R1]
  have z1 : w1.frozen? ⟨w.heap.size, 1, none⟩ = false := by simp [World.frozen?, R1]
  have HB1 := Lib.hid G1.fr.below0
  clear R1 G1
  go_wp2_with fail
  refine bodyPost_ret (v := .tuple #[valV 0 0, .int .i64 6]) ?_ rfl ⟨rfl, ?_⟩
  · simp [results, Try.results11, go_sem, y0, y1]
  · exact ((HB1.out).setCell (Nat.le_refl _) _).setCell (Nat.le_refl _) _
end Go.Proofs.Ytlpklloagaccoaa
