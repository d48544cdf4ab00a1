/- Objects' headers are written (object.SetHeader). Conditions: an object's own kind and sizes. -/
import Derived.Test.YtlpklloagaccoaaObHead
import Derived.Deep.RegionWith
namespace Go.Proofs.Ytlpklloagaccoaa
open Go.RowKit
set_option linter.unusedVariables false

theorem ArOk.m {S : ArS} (h : ArOk S) (m : Nat → Nat) : ArOk { S with m := m } := ⟨h.tn, h.nat, h.disj⟩
theorem Fresh.m {S : ArS} (h : Fresh S) (m : Nat → Nat) : Fresh { S with m := m } := ⟨h.ok.m m, h.pg, h.t1, h.cj, h.rows, h.free⟩
theorem AlOf.m {L : Al} {S : ArS} (h : AlOf L S) (m : Nat → Nat) : AlOf L { S with m := m } := ⟨h.n, h.t, h.cur, fun e => (h.ok e).m m⟩
def setCnt (x : Ob) (n : Nat) : Ob := { x with cnt := n }
theorem ObAt.setHd {m : Nat → Nat} {a : Nat} {x : Ob} (h : ObAt m a x) (n col : Nat) (z : Bool) (hn : n ≤ 255) (hcol : col ≤ 3) : ObAt (updN m a (hdW x.kind x.cells x.raw n col z false)) a (setCnt x n) := by
  have e : ∀ i, i ≠ a → updN m a (hdW x.kind x.cells x.raw n col z false) i = m i := fun i hi => by unfold updN; rw [if_neg hi]
  refine ⟨⟨col, z, hcol, by unfold updN; rw [if_pos rfl]; rfl⟩, fun i hi => ?_, h.vok, fun i hi => ?_, h.bok, h.k1, h.c1, h.r1, hn⟩
  · rw [e _ (by omega), e _ (by omega)]; exact h.vals i hi
  · show getv (updN m a _ (a + 1 + 2 * x.cells + i / 8)) _ 8 = _
    rw [e _ (by omega)]; exact h.bytes i hi
/-- The words of an object turn. -/
theorem Space.turn {o o' : Own} {w w' : World} {r p : Nat} {L : Al} {ob : Int → Option Ob} {pa : Nat} {A : ArS} (S : Space o w r p L ob pa A) {h : Int} {x y : Ob} {a : Nat} {m : Nat → Nat} (hx : ob h = some x) (ha : h = a) (hc : y.cells = x.cells) (hr : y.raw = x.raw)
    (hm : ∀ i, ¬ (a ≤ i ∧ i < a + wordsN x.cells x.raw) → m i = A.m i) (hy : ObAt m a y) (B : Blk o' w' r p (.cells #[.pointer (some ⟨pa, 0, none⟩)] 51 (0, 0))) (R : ArenaRep o' w' (r + 1) pa { A with m := m }) : Space o' w' r p L (updI ob h (some y)) pa { A with m := m } :=
  ⟨B, R, S.ok.put hx hc hr ha hm hy, S.al.m m⟩
/-- Behind a call that gives a number back. -/
def SpPost (o : Own) (w : World) (r p : Nat) (L : Al) (ob : Int → Option Ob) (v : Value) (e : Ending) (w' : World) : Prop :=
  e = .returned v ∧ ∃ o', Fr r (r + 16) o o' w w' ∧ SpaceRep o' w' r p L ob
set_option maxRecDepth 100000 in
set_option maxHeartbeats 2000000 in
theorem osethead_yes {o : Own} {r p : Nat} {L : Al} {ob : Int → Option Ob} (h : Int) (x : Ob) (n col : Nat) (z : Bool) (w : World) (ho : Owned o w) (S : SpaceRep o w r p L ob) (hx : ob h = some x) (hn : n ≤ 255) (hcol : col ≤ 3) :
    Calls Try.prog 72 #[.pointer (some ⟨p, 0, none⟩), .int .i64 h, hdV x.kind x.cells x.raw n col z false] w (SpPost o w r p L (updI ob h (some (setCnt x n))) (.int .i64 0)) := by
  obtain ⟨pa, A, S⟩ := S
  obtain ⟨a, ha, h64, hrange, hat⟩ := S.ok.range hx
  have hrange : a + wordsN x.cells x.raw ≤ A.n * 64 := hrange
  have hwp := wordsN_pos x.cells x.raw
  have HHd := Lib.hid (fun (y : Obj) (w1 : World) (G : Grew o w y w1) => show Calls Try.prog 30 #[.pointer (some ⟨p, 0, none⟩), .int .i64 h] w1 fun e w' => ∃ (col2 : Nat) (z2 : Bool), e = .returned (.tuple #[hdV x.kind x.cells x.raw x.cnt col2 z2 false, .int .i64 0]) ∧ Grew o w y w' from
    (ohead_yes h x w1 G.fr.fresh ⟨pa, A, S.keep G.fr (.inr (Nat.zero_le _))⟩ hx).mono fun e w' h => by
      obtain ⟨c2, z2, _, h1, h2⟩ := h
      exact ⟨c2, z2, h1, G.below h2⟩)
  have hk := hat.k1
  have hc1 := hat.c1
  have hr1 := hat.r1
  have HWr := Lib.hid (fun (w4 : World) (F : Fr 0 0 o o w w4) => show Calls Try.prog 25 #[.pointer (some ⟨pa, 0, none⟩), .int .i64 h, .int .u64 (hdW x.kind x.cells x.raw n col z false : Nat)] w4 fun e w' => e = .returned (.int .i64 0) ∧ ∃ o', Fr r (r + 16) o o' w w' ∧ SpaceRep o' w' r p L (updI ob h (some (setCnt x n))) from
    (awrite_any h a _ w4 F.fresh (S.ar.keep F (.inr (Nat.zero_le _))) ha (by omega) (hdW_lt hk.2 hc1 hr1 hn hcol)).mono fun e w' hh => by
      obtain ⟨h1, o', F2, A2⟩ := hh
      exact ⟨h1, o', (F.none r (r + 16)).trans (F2.mono (by omega) (by omega)), pa, _, S.turn hx ha rfl rfl (fun i hi => by unfold updN; rw [if_neg (by omega)]) (hat.setHd n col z hn hcol) ((S.blk.keep F (.inr (Nat.zero_le _))).keep F2 (by omega)) A2⟩)
  have HR := Lib.hid (fun W => right_yes x.kind x.cells x.raw n col z false W (rightB_ob hk hc1 hr1 hn hcol))
  have HH := Lib.hid (fun W => word_right x.kind x.cells x.raw n col z false (rightB_ob hk hc1 hr1 hn hcol) W)
  have c0 := S.c0
  have HO := Lib.hid ho
  have hpl := S.blk.lt
  have hnot : ∀ (x : Bool) (w : World), (Op.unary .not (.bool x)).run Try.prog w = .ok (.bool (!x)) w := fun _ _ => rfl
  clear S hx ha h64 hrange hat hwp hk hc1 hr1 hn hcol ho
  generalize hdW x.kind x.cells x.raw n col z false = hd at HWr HH
  unfold setCnt at *
  generalize updI ob h (some { x with cnt := n }) = ob' at *
  go_enter Try.func72, Try.ntmps72
  go_wp2_with fail
  go_at_call 30
  refine (HHd.out (.cells #[.int .i64 (x.kind : Nat), .int .i64 (x.cells : Nat), .int .i64 (x.raw : Nat), .int .i64 (n : Nat), .int .i64 (col : Nat), .bool z, .bool false] 53) _ (by repeat (first | exact Grew.base HO.out _ | refine Grew.drew ?_ | refine Grew.alloc ?_ _))).mono ?_
  rintro e w1 ⟨col2, z2, rfl, G1⟩
  have X1 := G1.x_
  have x0 : w1.cell? ⟨w.heap.size, 0, none⟩ = some (.int .i64 (x.kind : Nat)) := by simp [World.cell?, X1]
  have x1 : w1.cell? ⟨w.heap.size, 1, none⟩ = some (.int .i64 (x.cells : Nat)) := by simp [World.cell?, X1]
  have x2 : w1.cell? ⟨w.heap.size, 2, none⟩ = some (.int .i64 (x.raw : Nat)) := by simp [World.cell?, X1]
  have x3 : w1.cell? ⟨w.heap.size, 3, none⟩ = some (.int .i64 (n : Nat)) := by simp [World.cell?, X1]
  have x4 : w1.cell? ⟨w.heap.size, 4, none⟩ = some (.int .i64 (col : Nat)) := by simp [World.cell?, X1]
  have x5 : w1.cell? ⟨w.heap.size, 5, none⟩ = some (.bool z) := by simp [World.cell?, X1]
  have x6 : w1.cell? ⟨w.heap.size, 6, none⟩ = some (.bool false) := by simp [World.cell?, X1]
  have hl1 := lt_of_block X1
  have c1 := G1.fr.cell0 c0
  have hp1 : p < w1.heap.size := by omega
  have hp2 : p < w1.heap.size + 1 := by omega
  have hp3 : p < w1.heap.size + 1 + 1 := by omega
  have hl2 : w.heap.size < w1.heap.size + 1 := by omega
  have hl3 : w.heap.size < w1.heap.size + 1 + 1 := by omega
  have HF1 := Lib.hid G1.fr
  clear X1 G1
  go_wp2_with (go_at_call 22; refine (HR.out _).mono ?_; rintro e w2 ⟨rfl, o2, rfl⟩)
  go_region_with (first
    | (go_at_call 26; refine (HH.out _).mono ?_; rintro e w4 ⟨rfl, hb4⟩; have F4 := (((HF1.out.alloc _).alloc _).drew).below hb4; have c4 := F4.cell0 c0; have HF4 := Lib.hid F4; clear hb4 F4)
    | (go_at_call 25; refine (HWr.out _ (by repeat (first | exact HF4.out | exact HF1.out | refine Fr.drew ?_ | refine Fr.alloc ?_ _))).mono ?_; rintro e w5 ⟨rfl, o5, F5, S5⟩; have H5 := Lib.hid F5; clear F5; have HS5 := Lib.hid S5; clear S5))
  all_goals
    go_wp2_with fail
    go_ret
    exact ⟨rfl, o5, H5.out, HS5.out⟩
end Go.Proofs.Ytlpklloagaccoaa
