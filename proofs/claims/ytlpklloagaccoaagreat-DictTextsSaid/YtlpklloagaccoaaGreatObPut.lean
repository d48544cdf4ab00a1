/- Objects' cells are read (object.cell, Cell). Conditions: the space is as one that was made. Objects' cells are written (object.Kind, SetCell). Conditions: the space is as one that was made. -/
import Derived.Test.YtlpklloagaccoaaGreatObSet
import Derived.Outline
import Derived.StillTailTactics
namespace Go.Proofs.YtlpklloagaccoaaGreat
open Go.RowKit
set_option linter.unusedVariables false

set_option maxRecDepth 100000 in
theorem ocell_yes {o : Own} {r p : Nat} {L : Al} {ob : Int → Option Ob} (h : Int) (i : Int) (x : Ob) (a k : Nat) (w : World) (ho : Owned o w) (S : SpaceRep o w r p L ob) (hx : ob h = some x) (ha : h = a) (hi : i = k) (hk : k < x.cells) :
    Calls Tryz.prog 110 #[.pointer (some ⟨p, 0, none⟩), .int .i64 h, .int .i64 i] w fun e w' => e = .returned (.tuple #[.int .i64 (a + 1 + 2 * k : Nat), .int .i64 0]) ∧ Below w.heap.size w w' := by
  have HHd := Lib.hid (ohead_yes h x w ho S hx)
  obtain ⟨pa, A, S⟩ := S
  obtain ⟨a', ha', h64, hrange, hat⟩ := S.ok.range hx
  have hn := S.ok.ok.tn
  have hrange : a' + wordsN x.cells x.raw ≤ A.n * 64 := hrange
  obtain ⟨g, q, l, b, v, f, AR⟩ := S.ar
  have hn4 := AR.n1
  have hc1 := hat.c1
  have haa : a' = a := by omega
  subst haa hi
  have hi0 : (0 : Int) ≤ (k : Int) := by omega
  have hk' : (k : Int) < (x.cells : Int) := by omega
  have hk4 : (k : Int) ≤ 4000 := by omega
  have ha4 : (a' : Int) ≤ 262144 := by omega
  subst ha
  clear S AR hat hrange hx ho ha' hn4 hn hc1 h64
  go_enter Tryz.func110, Tryz.ntmps110
  go_wp2_with fail
  go_at_call 54
  refine HHd.out.mono ?_
  rintro e w1 ⟨col, z, hcol, rfl, hb1⟩
  have HB1 := Lib.hid hb1
  clear hb1
  go_wp2_with fail
  go_ret2
  exact ⟨by first | rfl | go_num | (simp; omega), by first | exact HB1.out.alloc HB1.out.size _ | exact HB1.out⟩
theorem ocell_none {o : Own} {r p : Nat} {L : Al} {ob : Int → Option Ob} (h : Int) (i : Int) (w : World) (ho : Owned o w) (S : SpaceRep o w r p L ob) (hx : ob h = none) :
    Calls Tryz.prog 110 #[.pointer (some ⟨p, 0, none⟩), .int .i64 h, .int .i64 i] w fun e w' => e = .returned (.tuple #[.int .i64 0, .int .i64 3]) ∧ Below w.heap.size w w' := by
  have HHd := Lib.hid (ohead_no h w ho S hx)
  clear S hx ho
  go_enter Tryz.func110, Tryz.ntmps110
  go_wp2_with fail
  go_at_call 54
  refine HHd.out.mono ?_
  rintro e w1 ⟨rfl, hb1⟩
  have HB1 := Lib.hid hb1
  clear hb1
  go_wp2_with fail
  go_ret2
  exact ⟨rfl, by first | exact HB1.out.alloc HB1.out.size _ | exact HB1.out⟩
theorem ocell_range {o : Own} {r p : Nat} {L : Al} {ob : Int → Option Ob} (h : Int) (i : Int) (x : Ob) (w : World) (ho : Owned o w) (S : SpaceRep o w r p L ob) (hx : ob h = some x) (hi : i < 0 ∨ (x.cells : Int) ≤ i) :
    Calls Tryz.prog 110 #[.pointer (some ⟨p, 0, none⟩), .int .i64 h, .int .i64 i] w fun e w' => e = .returned (.tuple #[.int .i64 0, .int .i64 6]) ∧ Below w.heap.size w w' := by
  have HHd := Lib.hid (ohead_yes h x w ho S hx)
  clear S hx ho
  rcases hi with hi | hi
  · go_enter Tryz.func110, Tryz.ntmps110
    go_wp2_with fail
    go_at_call 54
    refine HHd.out.mono ?_
    rintro e w1 ⟨col, z, hcol, rfl, hb1⟩
    have HB1 := Lib.hid hb1
    clear hb1
    go_wp2_with fail
    go_ret2
    exact ⟨rfl, by first | exact HB1.out.alloc HB1.out.size _ | exact HB1.out⟩
  · have hi2 : ¬ i < 0 := by omega
    go_enter Tryz.func110, Tryz.ntmps110
    go_wp2_with fail
    go_at_call 54
    refine HHd.out.mono ?_
    rintro e w1 ⟨col, z, hcol, rfl, hb1⟩
    have HB1 := Lib.hid hb1
    clear hb1
    go_wp2_with fail
    go_ret2
    exact ⟨rfl, by first | exact HB1.out.alloc HB1.out.size _ | exact HB1.out⟩
/-- A value. -/
abbrev valV (k n : Int) : Value := .agg #[.int .i64 k, .int .i64 n]
set_option maxRecDepth 100000 in
set_option maxHeartbeats 1000000 in
theorem ocellv_yes {o : Own} {r p : Nat} {L : Al} {ob : Int → Option Ob} (h : Int) (i : Int) (x : Ob) (k : Nat) (w : World) (ho : Owned o w) (S : SpaceRep o w r p L ob) (hx : ob h = some x) (hi : i = k) (hk : k < x.cells) :
    Calls Tryz.prog 59 #[.pointer (some ⟨p, 0, none⟩), .int .i64 h, .int .i64 i] w fun e w' => e = .returned (.tuple #[valV (x.val k).1 (x.val k).2, .int .i64 0]) ∧ Below w.heap.size w w' := by
  obtain ⟨pa, A, S⟩ := S
  obtain ⟨a, ha, h64, hrange, hat⟩ := S.ok.range hx
  have hrange : a + wordsN x.cells x.raw ≤ A.n * 64 := hrange
  have hw : wordsN x.cells x.raw = 1 + 2 * x.cells + (x.raw + 7) / 8 := rfl
  have hv := hat.vals k hk
  have hv1 : A.m (a + 1 + 2 * k) = (x.val k).1 := hv.1
  have hv2 : A.m (a + 1 + 2 * k + 1) = wd64 (x.val k).2 := hv.2
  have hvo := hat.vok k hk
  have HCl := Lib.hid (fun (w1 : World) (G : Grew o w (.cells #[.int .i64 0, .int .i64 0] 30) w1) => show Calls Tryz.prog 110 #[.pointer (some ⟨p, 0, none⟩), .int .i64 h, .int .i64 i] w1 fun e w' => e = .returned (.tuple #[.int .i64 (a + 1 + 2 * k : Nat), .int .i64 0]) ∧ Grew o w (.cells #[.int .i64 0, .int .i64 0] 30) w' from
    (ocell_yes h i x a k w1 G.fr.fresh ⟨pa, A, S.keep G.fr (.inr (Nat.zero_le _))⟩ hx ha hi hk).mono fun e w' h => ⟨h.1, G.below h.2⟩)
  have HR1 := Lib.hid (fun (w1 : World) (j : Int) (e : j = (a + 1 + 2 * k : Nat)) (F : Fr 0 0 o o w w1) => show Calls Tryz.prog 52 #[.pointer (some ⟨pa, 0, none⟩), .int .i64 j] w1 fun e w' => e = .returned (.tuple #[.int .u64 ((x.val k).1 : Nat), .int .i64 0]) ∧ w1 = w' from by
    rw [← hv1]; exact aread_any j (a + 1 + 2 * k) w1 (S.ar.keep F (.inr (Nat.zero_le _))) e (by omega))
  have HR2 := Lib.hid (fun (w1 : World) (j : Int) (e : j = (a + 1 + 2 * k + 1 : Nat)) (F : Fr 0 0 o o w w1) => show Calls Tryz.prog 52 #[.pointer (some ⟨pa, 0, none⟩), .int .i64 j] w1 fun e w' => e = .returned (.tuple #[.int .u64 (wd64 (x.val k).2 : Nat), .int .i64 0]) ∧ w1 = w' from by
    rw [← hv2]; exact aread_any j (a + 1 + 2 * k + 1) w1 (S.ar.keep F (.inr (Nat.zero_le _))) e (by omega))
  obtain ⟨g, q, l, b, v, f, AR⟩ := S.ar
  have hn4 := AR.n1
  have c0 := S.c0
  have HO := Lib.hid ho
  have hpl := S.blk.lt
  have hat4 : ((a + 1 + 2 * k : Nat) : Int) ≤ 262144 := by omega
  have hat0 : (0 : Int) ≤ ((a + 1 + 2 * k : Nat) : Int) := by omega
  have HBK := Lib.hid (wd64_back hvo.2)
  have hq : ((x.val k).1 : Int) ≤ 3 := by omega
  clear S AR hx ha h64 hrange hat hw hv hv1 hv2 hvo hn4 hi hk ho
  generalize (x.val k).1 = kd at *
  generalize (x.val k).2 = nn at *
  obtain ⟨wd, hwd⟩ : ∃ d, d = wd64 nn := ⟨_, rfl⟩
  rw [← hwd] at HBK HR2
  clear hwd
  generalize hAT : a + 1 + 2 * k = at_ at *
  go_enter Tryz.func59, Tryz.ntmps59
  go_wp2_with fail
  go_at_call 110
  refine (HCl.out _ (by repeat (first | exact Grew.base HO.out _ | refine Grew.drew ?_ | refine Grew.alloc ?_ _))).mono ?_
  rintro e w1 ⟨rfl, G1⟩
  have F1 := G1.fr
  have R1 := G1.x_
  have y0 : w1.cell? ⟨w.heap.size, 0, none⟩ = some (.int .i64 0) := by simp [World.cell?, R1]
  have y1 : w1.cell? ⟨w.heap.size, 1, none⟩ = some (.int .i64 0) := by simp [World.cell?, R1]
  have z0 : w1.frozen? ⟨w.heap.size, 0, none⟩ = false := by simp [World.frozen?, R1]
  have z1 : w1.frozen? ⟨w.heap.size, 1, none⟩ = false := by simp [World.frozen?, R1]
  have hl1 := lt_of_block R1
  have HB1 := Lib.hid G1.fr.below0
  clear R1 G1
  have c1 := F1.cell0 c0
  have HF1 := Lib.hid F1
  clear F1
  go_wp2_with fail
  go_at_call 52
  refine (HR1.out _ _ rfl HF1.out).mono ?_
  rintro e w2 ⟨rfl, rfl⟩
  go_wp2_with fail
  go_at_call 52
  refine (HR2.out _ _ (by omega) HF1.out).mono ?_
  rintro e w2 ⟨rfl, rfl⟩
  go_wp2_with fail
  have hbk : wrap64 (wd : Int) = nn := by have := HBK.out; rw [IntKind.wrap_i64] at this; unfold wrap64; exact this
  rw [hbk]
  refine bodyPost_ret (v := .tuple #[valV kd nn, .int .i64 0]) ?_ rfl ⟨rfl, ?_⟩
  · simp [results, Tryz.results59, go_sem, y0, y1]
  · exact ((HB1.out).setCell (Nat.le_refl _) _).setCell (Nat.le_refl _) _
/-- Behind Cell, where there is none. -/
theorem ocellv_none {o : Own} {r p : Nat} {L : Al} {ob : Int → Option Ob} (h : Int) (i : Int) (w : World) (ho : Owned o w) (S : SpaceRep o w r p L ob) (hx : ob h = none) :
    Calls Tryz.prog 59 #[.pointer (some ⟨p, 0, none⟩), .int .i64 h, .int .i64 i] w fun e w' => e = .returned (.tuple #[valV 0 0, .int .i64 3]) ∧ Below w.heap.size w w' := by
  have HCl := Lib.hid (fun (w1 : World) (G : Grew o w (.cells #[.int .i64 0, .int .i64 0] 30) w1) => show Calls Tryz.prog 110 #[.pointer (some ⟨p, 0, none⟩), .int .i64 h, .int .i64 i] w1 fun e w' => e = .returned (.tuple #[.int .i64 0, .int .i64 3]) ∧ Grew o w (.cells #[.int .i64 0, .int .i64 0] 30) w' from
    (ocell_none h i w1 G.fr.fresh (S.keep G.fr (.inr (Nat.zero_le _))) hx).mono fun e w' h => ⟨h.1, G.below h.2⟩)
  have HO := Lib.hid ho
  clear S hx ho
  go_enter Tryz.func59, Tryz.ntmps59
  go_wp2_with fail
  go_at_call 110
  refine (HCl.out _ (by repeat (first | exact Grew.base HO.out _ | refine Grew.drew ?_ | refine Grew.alloc ?_ _))).mono ?_
  rintro e w1 ⟨rfl, G1⟩
  have R1 := G1.x_
  have y0 : w1.cell? ⟨w.heap.size, 0, none⟩ = some (.int .i64 0) := by simp [World.cell?, R1]
  have y1 : w1.cell? ⟨w.heap.size, 1, none⟩ = some (.int .i64 0) := by simp [World.cell?, R1]
  have z0 : w1.frozen? ⟨w.heap.size, 0, none⟩ = false := by simp [World.frozen?, R1]
  have z1 : w1.frozen? ⟨w.heap.size, 1, none⟩ = false := by simp [World.frozen?, R1]
  have HB1 := Lib.hid G1.fr.below0
  clear R1 G1
  go_wp2_with fail
  refine bodyPost_ret (v := .tuple #[valV 0 0, .int .i64 3]) ?_ rfl ⟨rfl, ?_⟩
  · simp [results, Tryz.results59, go_sem, y0, y1]
  · exact ((HB1.out).setCell (Nat.le_refl _) _).setCell (Nat.le_refl _) _
theorem ocellv_range {o : Own} {r p : Nat} {L : Al} {ob : Int → Option Ob} (h : Int) (i : Int) (x : Ob) (w : World) (ho : Owned o w) (S : SpaceRep o w r p L ob) (hx : ob h = some x) (hi : i < 0 ∨ (x.cells : Int) ≤ i) :
    Calls Tryz.prog 59 #[.pointer (some ⟨p, 0, none⟩), .int .i64 h, .int .i64 i] w fun e w' => e = .returned (.tuple #[valV 0 0, .int .i64 6]) ∧ Below w.heap.size w w' := by
  have HCl := Lib.hid (fun (w1 : World) (G : Grew o w (.cells #[.int .i64 0, .int .i64 0] 30) w1) => show Calls Tryz.prog 110 #[.pointer (some ⟨p, 0, none⟩), .int .i64 h, .int .i64 i] w1 fun e w' => e = .returned (.tuple #[.int .i64 0, .int .i64 6]) ∧ Grew o w (.cells #[.int .i64 0, .int .i64 0] 30) w' from
    (ocell_range h i x w1 G.fr.fresh (S.keep G.fr (.inr (Nat.zero_le _))) hx hi).mono fun e w' h => ⟨h.1, G.below h.2⟩)
  have HO := Lib.hid ho
  clear S hx ho hi
  go_enter Tryz.func59, Tryz.ntmps59
  go_wp2_with fail
  go_at_call 110
  refine (HCl.out _ (by repeat (first | exact Grew.base HO.out _ | refine Grew.drew ?_ | refine Grew.alloc ?_ _))).mono ?_
  rintro e w1 ⟨rfl, G1⟩
  have R1 := G1.x_
  have y0 : w1.cell? ⟨w.heap.size, 0, none⟩ = some (.int .i64 0) := by simp [World.cell?, R1]
  have y1 : w1.cell? ⟨w.heap.size, 1, none⟩ = some (.int .i64 0) := by simp [World.cell?, R1]
  have z0 : w1.frozen? ⟨w.heap.size, 0, none⟩ = false := by simp [World.frozen?, R1]
  have z1 : w1.frozen? ⟨w.heap.size, 1, none⟩ = false := by simp [World.frozen?, R1]
  have HB1 := Lib.hid G1.fr.below0
  clear R1 G1
  go_wp2_with fail
  refine bodyPost_ret (v := .tuple #[valV 0 0, .int .i64 6]) ?_ rfl ⟨rfl, ?_⟩
  · simp [results, Tryz.results59, go_sem, y0, y1]
  · exact ((HB1.out).setCell (Nat.le_refl _) _).setCell (Nat.le_refl _) _
end Go.Proofs.YtlpklloagaccoaaGreat
namespace Go.Proofs.YtlpklloagaccoaaGreat
open Go.RowKit
set_option linter.unusedVariables false

theorem okind_yes (q : Nat) (n : Int) (w : World) (h : q ≤ 3) : Calls Tryz.prog 113 #[valV q n] w fun e w' => e = .returned (.bool true) ∧ ∃ o, w.alloc o = w' := by
  have h1 : (0 : Int) ≤ (q : Int) := by omega
  have h2 : (q : Int) ≤ 3 := by omega
  go_enter Tryz.func113, Tryz.ntmps113
  go_wp2
  go_ret
  exact ⟨rfl, _, rfl⟩
def setVal (x : Ob) (i : Nat) (v : Nat × Int) : Ob := { x with val := updF x.val i v }
def putM (m : Nat → Nat) (a k : Nat) (q : Nat) (n : Int) : Nat → Nat := updN (updN m (a + 1 + 2 * k) q) (a + 1 + 2 * k + 1) (wd64 n)
theorem ObAt.setVal {m : Nat → Nat} {a : Nat} {x : Ob} (h : ObAt m a x) (k : Nat) (hk : k < x.cells) (q : Nat) (n : Int) (hq : q ≤ 3) (hn : in64 n) : ObAt (putM m a k q n) a (Proofs.YtlpklloagaccoaaGreat.setVal x k (q, n)) := by
  have e : ∀ i, i ≠ a + 1 + 2 * k → i ≠ a + 1 + 2 * k + 1 → putM m a k q n i = m i := fun i h1 h2 => by unfold putM updN; rw [if_neg h2, if_neg h1]
  have e1 : putM m a k q n (a + 1 + 2 * k) = q := by unfold putM updN; rw [if_neg (by omega), if_pos rfl]
  have e2 : putM m a k q n (a + 1 + 2 * k + 1) = wd64 n := by unfold putM updN; rw [if_pos rfl]
  refine ⟨?_, fun i hi => ?_, fun i hi => ?_, fun i hi => ?_, h.bok, h.k1, h.c1, h.r1, h.n1⟩
  · obtain ⟨col, z, h1, h2⟩ := h.hd
    exact ⟨col, z, h1, by rw [e a (by omega) (by omega)]; exact h2⟩
  · show _ = (updF x.val k (q, n) i).1 ∧ _ = wd64 (updF x.val k (q, n) i).2
    unfold updF
    by_cases hik : i = k
    · subst hik; rw [if_pos rfl]; exact ⟨e1, e2⟩
    · rw [if_neg hik, e _ (by omega) (by omega), e _ (by omega) (by omega)]; exact h.vals i hi
  · show (updF x.val k (q, n) i).1 ≤ 3 ∧ in64 (updF x.val k (q, n) i).2
    unfold updF
    split
    · exact ⟨hq, hn⟩
    · exact h.vok i hi
  · show getv (putM m a k q n (a + 1 + 2 * x.cells + i / 8)) _ 8 = _
    rw [e _ (by omega) (by omega)]; exact h.bytes i hi
theorem awrite_int {o : Own} {r p : Nat} {S : ArS} (i : Int) (k x : Nat) (v : Int) (hv : v = (x : Nat)) (w : World) (ho : Owned o w) (A : ArenaRep o w r p S) (e : i = k) (hk : k < S.n * 64) (hx : x < 2 ^ 64) :
    Calls Tryz.prog 53 #[.pointer (some ⟨p, 0, none⟩), .int .i64 i, .int .u64 v] w (ArPost o w r p (setW S k x) (.int .i64 0)) := by
  subst hv; exact awrite_any i k x w ho A e hk hx
set_option maxRecDepth 100000 in
set_option maxHeartbeats 2000000 in
theorem osetcell_yes {o : Own} {r p : Nat} {L : Al} {ob : Int → Option Ob} (h i : Int) (x : Ob) (k q : Nat) (n : Int) (w : World) (ho : Owned o w) (S : SpaceRep o w r p L ob) (hx : ob h = some x) (hi : i = k) (hk : k < x.cells) (hq : q ≤ 3) (hn : in64 n) :
    Calls Tryz.prog 61 #[.pointer (some ⟨p, 0, none⟩), .int .i64 h, .int .i64 i, valV q n] w (SpPost o w r p L (updI ob h (some (setVal x k (q, n)))) (.int .i64 0)) := by
  obtain ⟨pa, A, S⟩ := S
  obtain ⟨a, ha, h64, hrange, hat⟩ := S.ok.range hx
  have hrange : a + wordsN x.cells x.raw ≤ A.n * 64 := hrange
  have hw : wordsN x.cells x.raw = 1 + 2 * x.cells + (x.raw + 7) / 8 := rfl
  have HCl := Lib.hid (fun (y : Obj) (w1 : World) (G : Grew o w y w1) => show Calls Tryz.prog 110 #[.pointer (some ⟨p, 0, none⟩), .int .i64 h, .int .i64 i] w1 fun e w' => e = .returned (.tuple #[.int .i64 (a + 1 + 2 * k : Nat), .int .i64 0]) ∧ Grew o w y w' from
    (ocell_yes h i x a k w1 G.fr.fresh ⟨pa, A, S.keep G.fr (.inr (Nat.zero_le _))⟩ hx ha hi hk).mono fun e w' h => ⟨h.1, G.below h.2⟩)
  have HW1 := Lib.hid (fun (y : Obj) (w1 : World) (vv : Int) (hvv : vv = (q : Nat)) (G : Grew o w y w1) => show Calls Tryz.prog 53 #[.pointer (some ⟨pa, 0, none⟩), .int .i64 (a + 1 + 2 * k : Nat), .int .u64 vv] w1 fun e w' => e = .returned (.int .i64 0) ∧ ∃ o', Fr r (r + 16) o o' w w' ∧ Blk o' w' r p (.cells #[.pointer (some ⟨pa, 0, none⟩)] 111 (0, 0)) ∧ ArenaRep o' w' (r + 1) pa (setW A (a + 1 + 2 * k) q) ∧ w'.heap[w.heap.size]? = some y from
    (awrite_int _ (a + 1 + 2 * k) q vv hvv w1 G.fr.fresh (S.ar.keep G.fr (.inr (Nat.zero_le _))) rfl (by omega) (by omega)).mono fun e w' h => by
      obtain ⟨h1, o', F2, A2⟩ := h
      exact ⟨h1, o', (G.fr.none r (r + 16)).trans (F2.mono (by omega) (by omega)), (S.blk.keep G.fr (.inr (Nat.zero_le _))).keep F2 (by omega), A2, (F2.block _ (lt_of_block G.x_) (.inl (by rw [ho _ (Nat.le_refl _)]; omega))).trans G.x_⟩)
  have HW2 := Lib.hid (fun (o3 : Own) (w3 w4 : World) (j vv : Int) (hj : j = (a + 1 + 2 * k + 1 : Nat)) (hvv : vv = (wd64 n : Nat)) (F3 : Fr r (r + 16) o o3 w w3) (F : Fr 0 0 o3 o3 w3 w4) (B : Blk o3 w3 r p (.cells #[.pointer (some ⟨pa, 0, none⟩)] 111 (0, 0))) (A3 : ArenaRep o3 w3 (r + 1) pa (setW A (a + 1 + 2 * k) q)) => show Calls Tryz.prog 53 #[.pointer (some ⟨pa, 0, none⟩), .int .i64 j, .int .u64 vv] w4 fun e w' => e = .returned (.int .i64 0) ∧ ∃ o', Fr r (r + 16) o o' w w' ∧ SpaceRep o' w' r p L (updI ob h (some (setVal x k (q, n)))) from
    (awrite_int j (a + 1 + 2 * k + 1) (wd64 n) vv hvv w4 F.fresh (A3.keep F (.inr (Nat.zero_le _))) hj (by show _ < A.n * 64; omega) (wd64_lt n)).mono fun e w' hh => by
      obtain ⟨h1, o', F2, A2⟩ := hh
      exact ⟨h1, o', (F3.trans (F.none r (r + 16))).trans (F2.mono (by omega) (by omega)), pa, _, S.turn hx ha rfl rfl (m := putM A.m a k q n) (fun i hi => by unfold putM updN; rw [if_neg (by omega), if_neg (by omega)]) (hat.setVal k hk q n hq hn) ((B.keep F (.inr (Nat.zero_le _))).keep F2 (by omega)) A2⟩)
  obtain ⟨g, qq, l, b, v, f, AR⟩ := S.ar
  have hn4 := AR.n1
  have HK := Lib.hid (fun W => okind_yes q n W hq)
  have HWD := Lib.hid (wd64_wrap n)
  have c0 := S.c0
  have HO := Lib.hid ho
  have hpl := S.blk.lt
  have hq0 : (0 : Int) ≤ (q : Int) := by omega
  have hq3 : (q : Int) ≤ 3 := by omega
  have hat4 : ((a + 1 + 2 * k : Nat) : Int) ≤ 262144 := by omega
  have hat0 : (0 : Int) ≤ ((a + 1 + 2 * k : Nat) : Int) := by omega
  have hnot : ∀ (x : Bool) (w : World), (Op.unary .not (.bool x)).run Tryz.prog w = .ok (.bool (!x)) w := fun _ _ => rfl
  clear S AR hx ha h64 hrange hat hw hn4 hi hk ho hn hq
  generalize updI ob h (some (setVal x k (q, n))) = ob' at *
  obtain ⟨wd, hwd⟩ : ∃ d, d = wd64 n := ⟨_, rfl⟩
  rw [← hwd] at HWD HW2
  clear hwd
  generalize hAT : a + 1 + 2 * k = at_ at *
  have HAT := Lib.hid hAT
  clear hAT
  go_enter Tryz.func61, Tryz.ntmps61
  go_wp2_with fail
  go_at_call 110
  refine (HCl.out (.cells #[.int .i64 (q : Nat), .int .i64 n] 30) _ (by repeat (first | exact Grew.base HO.out _ | refine Grew.drew ?_ | refine Grew.alloc ?_ _))).mono ?_
  rintro e w1 ⟨rfl, G1⟩
  have R1 := G1.x_
  have y0 : w1.cell? ⟨w.heap.size, 0, none⟩ = some (.int .i64 (q : Nat)) := by simp [World.cell?, R1]
  have y1 : w1.cell? ⟨w.heap.size, 1, none⟩ = some (.int .i64 n) := by simp [World.cell?, R1]
  have c1 := G1.fr.cell0 c0
  have hp1 : p < w1.heap.size := Nat.lt_of_lt_of_le hpl G1.fr.size
  have hl1 := lt_of_block R1
  have HG1 := Lib.hid G1
  clear R1 G1
  go_wp2_with (go_at_call 113; refine (HK.out _).mono ?_; rintro e w2 ⟨rfl, o2, rfl⟩)
  go_region_with (go_at_call 53; refine (HW1.out (.cells #[.int .i64 (q : Nat), .int .i64 n] 30) _ _ (by rw [IntKind.wrap_u64]; omega) (by repeat (first | exact HG1.out | refine Grew.drew ?_ | refine Grew.alloc ?_ _))).mono ?_; rintro e w3 ⟨rfl, o3, F3, B3, A3, X3⟩; have HF3 := Lib.hid F3; clear F3; have HB3 := Lib.hid B3; clear B3; have HA3 := Lib.hid A3; clear A3; have HX3 := Lib.hid X3; clear X3)
  all_goals
    have x0 : w3.cell? ⟨w.heap.size, 0, none⟩ = some (.int .i64 (q : Nat)) := by simp [World.cell?, HX3.out]
    have x1 : w3.cell? ⟨w.heap.size, 1, none⟩ = some (.int .i64 n) := by simp [World.cell?, HX3.out]
    have c3 := HB3.out.cell 0
    simp only [List.getElem?_toArray, List.getElem?_cons_zero] at c3
    go_wp2_with fail
    go_region_with (go_at_call 53; refine (HW2.out o3 w3 _ _ _ (by rw [IntKind.wrap_i64]; have := HAT.out; omega) (by exact HWD.out) HF3.out (by repeat (first | exact Fr.refl HF3.out.fresh | refine Fr.drew ?_)) HB3.out HA3.out).mono ?_; rintro e w5 ⟨rfl, o5, F5, S5⟩; have H5 := Lib.hid F5; clear F5; have HS5 := Lib.hid S5; clear S5)
    all_goals
      go_wp2_with fail
      go_ret
      exact ⟨rfl, o5, H5.out, HS5.out⟩
end Go.Proofs.YtlpklloagaccoaaGreat
