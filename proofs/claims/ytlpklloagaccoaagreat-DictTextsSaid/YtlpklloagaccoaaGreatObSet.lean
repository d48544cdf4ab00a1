/- Objects' headers (object.Header). Conditions: the space is as one that was made. Objects' headers are written (object.SetHeader). Conditions: an object's own kind and sizes. -/
import Derived.Test.YtlpklloagaccoaaGreatSpaceW
import Derived.Test.YtlpklloagaccoaaGreatRead
import Derived.Outline
import Derived.Deep.RegionWith
namespace Go.Proofs.YtlpklloagaccoaaGreat
open Go.RowKit
set_option linter.unusedVariables false

theorem Fr.below0 {o o' : Own} {w w' : World} (h : Fr 0 0 o o' w w') : Below w.heap.size w w' := ⟨h.os, h.tape, h.output, h.size, fun b hb => h.block b hb (.inr (Nat.zero_le _))⟩
theorem Fr.cell0 {o o' : Own} {w w' : World} (h : Fr 0 0 o o' w w') {a : Addr} {v : Value} (hc : w.cell? a = some v) : w'.cell? a = some v := by
  have hb := World.block_lt_of_cell? _ _ hc
  rw [World.cell?_of_block (h.block a.block hb (.inr (Nat.zero_le _)))]; exact hc
theorem rightB_ob {k c r n col : Nat} (hk : 1 ≤ k ∧ k ≤ 8) (hc : c ≤ 4000) (hr : r ≤ 4000) (hn : n ≤ 255) (hcol : col ≤ 3) : rightB k c r n col = true := by
  simp only [rightB, inB, Bool.and_eq_true, decide_eq_true_eq]; omega
/-- Behind Header, of an object. -/
def HeadPost (w : World) (x : Ob) (e : Ending) (w' : World) : Prop :=
  ∃ (col : Nat) (z : Bool), col ≤ 3 ∧ e = .returned (.tuple #[hdV x.kind x.cells x.raw x.cnt col z false, .int .i64 0]) ∧ Below w.heap.size w w'
set_option maxRecDepth 100000 in
set_option maxHeartbeats 1000000 in
theorem ohead_yes {o : Own} {r p : Nat} {L : Al} {ob : Int → Option Ob} (h : Int) (x : Ob) (w : World) (ho : Owned o w) (S : SpaceRep o w r p L ob) (hx : ob h = some x) :
    Calls Tryz.prog 54 #[.pointer (some ⟨p, 0, none⟩), .int .i64 h] w (HeadPost w x) := by
  obtain ⟨pa, A, S⟩ := S
  obtain ⟨a, sz, ha, hbl, hat⟩ := S.ok.loc h x hx
  obtain ⟨a', ha', h64, hrange, _⟩ := S.ok.range hx
  have haa : a' = a := by omega
  subst haa
  obtain ⟨col, z, hcol, hm⟩ := hat.hd
  have hrange : a' + wordsN x.cells x.raw ≤ A.n * 64 := hrange
  have hmn : A.m a' = hdW x.kind x.cells x.raw x.cnt col z false := hm
  have hwp := wordsN_pos x.cells x.raw
  have HSz := Lib.hid (fun (w1 : World) (G : Grew o w (.cells #[.int .i64 0, .int .i64 0, .int .i64 0, .int .i64 0, .int .i64 0, .bool false, .bool false] 65) w1) => show Calls Tryz.prog 106 #[.pointer (some ⟨pa, 0, none⟩), .int .i64 h] w1 fun e w' => e = .returned (.tuple #[.int .i64 (wordsN x.cells x.raw : Nat), .int .i64 0]) ∧ Grew o w (.cells #[.int .i64 0, .int .i64 0, .int .i64 0, .int .i64 0, .int .i64 0, .bool false, .bool false] 65) w' from
    (asize_yes h _ w1 (S.ar.keep G.fr (.inr (Nat.zero_le _))) hbl rfl).mono fun e w' h => ⟨h.1, by obtain ⟨_, n, rfl⟩ := h; exact ⟨G.fr.drewN n, G.x_⟩⟩)
  have HRd := Lib.hid (fun (w1 : World) (F : Fr 0 0 o o w w1) => show Calls Tryz.prog 52 #[.pointer (some ⟨pa, 0, none⟩), .int .i64 h] w1 fun e w' => e = .returned (.tuple #[.int .u64 (hdW x.kind x.cells x.raw x.cnt col z false : Nat), .int .i64 0]) ∧ w1 = w' from by
    rw [← hmn]; exact aread_any h a' w1 (S.ar.keep F (.inr (Nat.zero_le _))) ha (by omega))
  have hk := hat.k1
  have hc1 := hat.c1
  have hr1 := hat.r1
  have hn1 := hat.n1
  have HPar := Lib.hid (fun W => show Calls Tryz.prog 107 #[.int .u64 (hdW x.kind x.cells x.raw x.cnt col z false : Nat)] W fun e w' => e = .returned (hdV x.kind x.cells x.raw x.cnt col z false) ∧ Below W.heap.size W w' from by
    have := read_any _ (hdW_lt (z := z) (d := false) hk.2 hc1 hr1 hn1 hcol) W
    rw [rdV_hdW hk.2 hc1 hr1 hn1 hcol] at this; exact this)
  have HWd := Lib.hid (fun W => word_right x.kind x.cells x.raw x.cnt col z false (rightB_ob hk hc1 hr1 hn1 hcol) W)
  have HWs := Lib.hid (fun W => words_any x.kind x.cells x.raw x.cnt col z false W hc1 hr1)
  have c0 := S.c0
  have HO := Lib.hid ho
  have HC := Lib.hid hcol
  have hpos := hdW_pos (c := x.cells) (r := x.raw) (n := x.cnt) (col := col) (z := z) (d := false) hk.1
  have hpl := S.blk.lt
  clear S hx ha ha' hbl hat hm hmn hk hc1 hr1 hn1 hcol hwp hrange ho h64
  unfold HeadPost
  generalize wordsN x.cells x.raw = n at *
  generalize hdW x.kind x.cells x.raw x.cnt col z false = hd at *
  have hz : ((hd : Int) == 0) = false := by simp; omega
  go_enter Tryz.func54, Tryz.ntmps54
  go_wp2_with fail
  go_at_call 106
  refine (HSz.out _ (by repeat (first | exact Grew.base HO.out _ | refine Grew.drew ?_ | refine Grew.alloc ?_ _))).mono ?_
  rintro e w1 ⟨rfl, G1⟩
  have F1 := G1.fr
  have HG1 := Lib.hid G1
  clear G1
  have c1 := F1.cell0 c0
  have hp1 : p < w1.heap.size := Nat.lt_of_lt_of_le hpl F1.size
  have HF1 := Lib.hid F1
  clear F1
  go_wp2_with fail
  go_at_call 52
  refine (HRd.out _ HF1.out).mono ?_
  rintro e w2 ⟨rfl, rfl⟩
  go_wp2_with fail
  go_at_call 107
  refine (HPar.out _).mono ?_
  rintro e w2 ⟨rfl, hb2⟩
  have HG2 := Lib.hid (HG1.out.below hb2)
  clear hb2
  go_wp2_with fail
  go_at_call 104
  refine (HWd.out _).mono ?_
  rintro e w3 ⟨rfl, hb3⟩
  have hlt2 := lt_of_block HG2.out.x_
  have X3 := (hb3.block _ (by simp)).trans (heap_alloc_new w2 _)
  have R3 := (hb3.block w.heap.size (by simp; omega)).trans ((heap_alloc_old w2 _ hlt2).trans HG2.out.x_)
  have HB3 := Lib.hid (((HG2.out.fr.alloc _).below hb3).below0)
  have x0 : w3.cell? ⟨w2.heap.size, 0, none⟩ = some (.int .i64 (x.kind : Nat)) := by simp [World.cell?, X3]
  have x1 : w3.cell? ⟨w2.heap.size, 1, none⟩ = some (.int .i64 (x.cells : Nat)) := by simp [World.cell?, X3]
  have x2 : w3.cell? ⟨w2.heap.size, 2, none⟩ = some (.int .i64 (x.raw : Nat)) := by simp [World.cell?, X3]
  have x3 : w3.cell? ⟨w2.heap.size, 3, none⟩ = some (.int .i64 (x.cnt : Nat)) := by simp [World.cell?, X3]
  have x4 : w3.cell? ⟨w2.heap.size, 4, none⟩ = some (.int .i64 (col : Nat)) := by simp [World.cell?, X3]
  have x5 : w3.cell? ⟨w2.heap.size, 5, none⟩ = some (.bool z) := by simp [World.cell?, X3]
  have x6 : w3.cell? ⟨w2.heap.size, 6, none⟩ = some (.bool false) := by simp [World.cell?, X3]
  have y0 : w3.cell? ⟨w.heap.size, 0, none⟩ = some (.int .i64 0) := by simp [World.cell?, R3]
  have y1 : w3.cell? ⟨w.heap.size, 1, none⟩ = some (.int .i64 0) := by simp [World.cell?, R3]
  have y2 : w3.cell? ⟨w.heap.size, 2, none⟩ = some (.int .i64 0) := by simp [World.cell?, R3]
  have y3 : w3.cell? ⟨w.heap.size, 3, none⟩ = some (.int .i64 0) := by simp [World.cell?, R3]
  have y4 : w3.cell? ⟨w.heap.size, 4, none⟩ = some (.int .i64 0) := by simp [World.cell?, R3]
  have y5 : w3.cell? ⟨w.heap.size, 5, none⟩ = some (.bool false) := by simp [World.cell?, R3]
  have y6 : w3.cell? ⟨w.heap.size, 6, none⟩ = some (.bool false) := by simp [World.cell?, R3]
  have z0 : w3.frozen? ⟨w.heap.size, 0, none⟩ = false := by simp [World.frozen?, R3]
  have z1 : w3.frozen? ⟨w.heap.size, 1, none⟩ = false := by simp [World.frozen?, R3]
  have z2 : w3.frozen? ⟨w.heap.size, 2, none⟩ = false := by simp [World.frozen?, R3]
  have z3 : w3.frozen? ⟨w.heap.size, 3, none⟩ = false := by simp [World.frozen?, R3]
  have z4 : w3.frozen? ⟨w.heap.size, 4, none⟩ = false := by simp [World.frozen?, R3]
  have z5 : w3.frozen? ⟨w.heap.size, 5, none⟩ = false := by simp [World.frozen?, R3]
  have z6 : w3.frozen? ⟨w.heap.size, 6, none⟩ = false := by simp [World.frozen?, R3]
  have hl1 := lt_of_block X3
  have hl2 := lt_of_block R3
  have hne : ¬ w2.heap.size = w.heap.size := by omega
  clear X3 R3 hb3 hlt2
  go_wp2_with (go_at_call 103; refine (HWs.out _).mono ?_; rintro e w4 ⟨rfl, o4, rfl⟩)
  refine bodyPost_ret (v := .tuple #[hdV x.kind x.cells x.raw x.cnt col z false, .int .i64 0]) ?_ rfl ⟨col, z, HC.out, rfl, ?_⟩
  · simp [results, Tryz.results54, go_sem, y0, y1, y2, y3, y4, y5, y6, hl2]
  · refine Below.alloc ?_ (by simp; omega) _
    iterate 7 refine Below.setCell ?_ (by first | (simp; done) | (simp; omega)) _
    exact HB3.out
theorem used_no {o : Own} {r p : Nat} {S : ArS} (k : Int) (w : World) (A : ArenaRep o w r p S) (hs : ∀ y, S.bl k = some y → y.state ≠ 1) :
    Calls Tryz.prog 164 #[.pointer (some ⟨p, 0, none⟩), .int .i64 k] w fun e w' => (∃ v, e = .returned (.tuple #[.pointer v, .bool false])) ∧ ∃ n, w' = w.drewN n := by
  obtain ⟨g, q, l, b, v, f, A⟩ := A
  have hl := A.look k true
  have c3 := A.c3
  cases hf : f k with
  | none =>
    rw [hf] at hl
    simp only [Option.map_none, Option.getD_none, Option.isSome_none, if_true] at hl
    clear A hf hs
    go_enter Tryz.func164, Tryz.ntmps164
    go_wp2
    go_quiet (fail)
    go_wp2
    go_ret2
    exact ⟨⟨_, rfl⟩, nq, rfl⟩
  | some a =>
    obtain ⟨y, hy, B⟩ := A.bsome k a hf
    rw [hf] at hl
    simp only [Option.map_some, Option.getD_some, Option.isSome_some, if_true] at hl
    have d2 := B.cell 2
    unfold blCells at d2
    simp only [List.getElem?_toArray, List.getElem?_cons_zero, List.getElem?_cons_succ] at d2
    have hne := hs y hy
    have hb : ((y.state : Int) == 1) = false := by simp; omega
    clear A hf hs B hy hne
    generalize y.state = s at *
    go_enter Tryz.func164, Tryz.ntmps164
    go_wp2
    go_quiet (fail)
    go_wp2
    go_ret2
    exact ⟨⟨_, rfl⟩, nq, rfl⟩
theorem asize_no {o : Own} {r p : Nat} {S : ArS} (k : Int) (w : World) (A : ArenaRep o w r p S) (hs : ∀ y, S.bl k = some y → y.state ≠ 1) :
    Calls Tryz.prog 106 #[.pointer (some ⟨p, 0, none⟩), .int .i64 k] w fun e w' => e = .returned (.tuple #[.int .i64 0, .int .i64 3]) ∧ ∃ n, w' = w.drewN n := by
  have HU := Lib.hid (used_no k w A hs)
  clear A hs
  go_enter Tryz.func106, Tryz.ntmps106
  go_wp2_with (go_at_call 164; refine HU.out.mono ?_; rintro e w1 ⟨⟨v, rfl⟩, n, rfl⟩)
  go_ret2
  exact ⟨rfl, n, rfl⟩
set_option maxRecDepth 100000 in
theorem ohead_no {o : Own} {r p : Nat} {L : Al} {ob : Int → Option Ob} (h : Int) (w : World) (ho : Owned o w) (S : SpaceRep o w r p L ob) (hx : ob h = none) :
    Calls Tryz.prog 54 #[.pointer (some ⟨p, 0, none⟩), .int .i64 h] w fun e w' => e = .returned (.tuple #[hdV 0 0 0 0 0 false false, .int .i64 3]) ∧ Below w.heap.size w w' := by
  obtain ⟨pa, A, S⟩ := S
  have hno : ∀ y, A.bl h = some y → y.state ≠ 1 := fun y hy hs => by
    obtain ⟨x, hx'⟩ := S.ok.all h y hy hs
    have : ob h = some x := hx'
    rw [hx] at this; cases this
  have HSz := Lib.hid (fun (w1 : World) (F : Fr 0 0 o o w w1) => asize_no h w1 (S.ar.keep F (.inr (Nat.zero_le _))) hno)
  have c0 := S.c0
  have HO := Lib.hid ho
  have hpl := S.blk.lt
  clear S hx hno ho
  go_enter Tryz.func54, Tryz.ntmps54
  go_wp2_with fail
  go_at_call 106
  refine (HSz.out _ (by repeat (first | exact Fr.refl HO.out | refine Fr.drew ?_ | refine Fr.alloc ?_ _))).mono ?_
  rintro e w1 ⟨rfl, m, rfl⟩
  go_wp2_with fail
  refine bodyPost_ret (v := .tuple #[hdV 0 0 0 0 0 false false, .int .i64 3]) ?_ rfl ⟨rfl, ?_⟩
  · simp [results, Tryz.results54, go_sem]
  · iterate 7 refine Below.setCell ?_ (by first | (simp; done) | (simp; omega)) _
    exact below_drewN ((Below.refl _ _).alloc (Nat.le_refl _) _) m
end Go.Proofs.YtlpklloagaccoaaGreat
namespace Go.Proofs.YtlpklloagaccoaaGreat
open Go.RowKit
set_option linter.unusedVariables false

theorem ArOk.m {S : ArS} (h : ArOk S) (m : Nat → Nat) : ArOk { S with m := m } := ⟨h.tn, h.nat, h.disj⟩
theorem Fresh.m {S : ArS} (h : Fresh S) (m : Nat → Nat) : Fresh { S with m := m } := ⟨h.ok.m m, h.pg, h.t1, h.cj, h.rows, h.free⟩
theorem AlOf.m {L : Al} {S : ArS} (h : AlOf L S) (m : Nat → Nat) : AlOf L { S with m := m } := ⟨h.n, h.t, h.cur, fun e => (h.ok e).m m, fun e => (h.rows e).m m⟩
def setCnt (x : Ob) (n : Nat) : Ob := { x with cnt := n }
theorem ObAt.setHd {m : Nat → Nat} {a : Nat} {x : Ob} (h : ObAt m a x) (n col : Nat) (z : Bool) (hn : n ≤ 255) (hcol : col ≤ 3) : ObAt (updN m a (hdW x.kind x.cells x.raw n col z false)) a (setCnt x n) := by
  have e : ∀ i, i ≠ a → updN m a (hdW x.kind x.cells x.raw n col z false) i = m i := fun i hi => by unfold updN; rw [if_neg hi]
  refine ⟨⟨col, z, hcol, by unfold updN; rw [if_pos rfl]; rfl⟩, fun i hi => ?_, h.vok, fun i hi => ?_, h.bok, h.k1, h.c1, h.r1, hn⟩
  · rw [e _ (by omega), e _ (by omega)]; exact h.vals i hi
  · show getv (updN m a _ (a + 1 + 2 * x.cells + i / 8)) _ 8 = _
    rw [e _ (by omega)]; exact h.bytes i hi
/-- The words of an object turn. -/
theorem Space.turn {o o' : Own} {w w' : World} {r p : Nat} {L : Al} {ob : Int → Option Ob} {pa : Nat} {A : ArS} (S : Space o w r p L ob pa A) {h : Int} {x y : Ob} {a : Nat} {m : Nat → Nat} (hx : ob h = some x) (ha : h = a) (hc : y.cells = x.cells) (hr : y.raw = x.raw)
    (hm : ∀ i, ¬ (a ≤ i ∧ i < a + wordsN x.cells x.raw) → m i = A.m i) (hy : ObAt m a y) (B : Blk o' w' r p (.cells #[.pointer (some ⟨pa, 0, none⟩)] 111 (0, 0))) (R : ArenaRep o' w' (r + 1) pa { A with m := m }) : Space o' w' r p L (updI ob h (some y)) pa { A with m := m } :=
  ⟨B, R, S.ok.put hx hc hr ha hm hy, S.al.m m⟩
/-- Behind a call that gives a number back. -/
def SpPost (o : Own) (w : World) (r p : Nat) (L : Al) (ob : Int → Option Ob) (v : Value) (e : Ending) (w' : World) : Prop :=
  e = .returned v ∧ ∃ o', Fr r (r + 16) o o' w w' ∧ SpaceRep o' w' r p L ob
set_option maxRecDepth 100000 in
set_option maxHeartbeats 2000000 in
theorem osethead_yes {o : Own} {r p : Nat} {L : Al} {ob : Int → Option Ob} (h : Int) (x : Ob) (n col : Nat) (z : Bool) (w : World) (ho : Owned o w) (S : SpaceRep o w r p L ob) (hx : ob h = some x) (hn : n ≤ 255) (hcol : col ≤ 3) :
    Calls Tryz.prog 64 #[.pointer (some ⟨p, 0, none⟩), .int .i64 h, hdV x.kind x.cells x.raw n col z false] w (SpPost o w r p L (updI ob h (some (setCnt x n))) (.int .i64 0)) := by
  obtain ⟨pa, A, S⟩ := S
  obtain ⟨a, ha, h64, hrange, hat⟩ := S.ok.range hx
  have hrange : a + wordsN x.cells x.raw ≤ A.n * 64 := hrange
  have hwp := wordsN_pos x.cells x.raw
  have HHd := Lib.hid (fun (y : Obj) (w1 : World) (G : Grew o w y w1) => show Calls Tryz.prog 54 #[.pointer (some ⟨p, 0, none⟩), .int .i64 h] w1 fun e w' => ∃ (col2 : Nat) (z2 : Bool), e = .returned (.tuple #[hdV x.kind x.cells x.raw x.cnt col2 z2 false, .int .i64 0]) ∧ Grew o w y w' from
    (ohead_yes h x w1 G.fr.fresh ⟨pa, A, S.keep G.fr (.inr (Nat.zero_le _))⟩ hx).mono fun e w' h => by
      obtain ⟨c2, z2, _, h1, h2⟩ := h
      exact ⟨c2, z2, h1, G.below h2⟩)
  have hk := hat.k1
  have hc1 := hat.c1
  have hr1 := hat.r1
  have HWr := Lib.hid (fun (w4 : World) (F : Fr 0 0 o o w w4) => show Calls Tryz.prog 53 #[.pointer (some ⟨pa, 0, none⟩), .int .i64 h, .int .u64 (hdW x.kind x.cells x.raw n col z false : Nat)] w4 fun e w' => e = .returned (.int .i64 0) ∧ ∃ o', Fr r (r + 16) o o' w w' ∧ SpaceRep o' w' r p L (updI ob h (some (setCnt x n))) from
    (awrite_any h a _ w4 F.fresh (S.ar.keep F (.inr (Nat.zero_le _))) ha (by omega) (hdW_lt hk.2 hc1 hr1 hn hcol)).mono fun e w' hh => by
      obtain ⟨h1, o', F2, A2⟩ := hh
      exact ⟨h1, o', (F.none r (r + 16)).trans (F2.mono (by omega) (by omega)), pa, _, S.turn hx ha rfl rfl (fun i hi => by unfold updN; rw [if_neg (by omega)]) (hat.setHd n col z hn hcol) ((S.blk.keep F (.inr (Nat.zero_le _))).keep F2 (by omega)) A2⟩)
  have HR := Lib.hid (fun W => right_yes x.kind x.cells x.raw n col z false W (rightB_ob hk hc1 hr1 hn hcol))
  have HH := Lib.hid (fun W => word_right x.kind x.cells x.raw n col z false (rightB_ob hk hc1 hr1 hn hcol) W)
  have c0 := S.c0
  have HO := Lib.hid ho
  have hpl := S.blk.lt
  have hnot : ∀ (x : Bool) (w : World), (Op.unary .not (.bool x)).run Tryz.prog w = .ok (.bool (!x)) w := fun _ _ => rfl
  clear S hx ha h64 hrange hat hwp hk hc1 hr1 hn hcol ho
  generalize hdW x.kind x.cells x.raw n col z false = hd at HWr HH
  unfold setCnt at *
  generalize updI ob h (some { x with cnt := n }) = ob' at *
  go_enter Tryz.func64, Tryz.ntmps64
  go_wp2_with fail
  go_at_call 54
  refine (HHd.out (.cells #[.int .i64 (x.kind : Nat), .int .i64 (x.cells : Nat), .int .i64 (x.raw : Nat), .int .i64 (n : Nat), .int .i64 (col : Nat), .bool z, .bool false] 65) _ (by repeat (first | exact Grew.base HO.out _ | refine Grew.drew ?_ | refine Grew.alloc ?_ _))).mono ?_
  rintro e w1 ⟨col2, z2, rfl, G1⟩
  have X1 := G1.x_
  have x0 : w1.cell? ⟨w.heap.size, 0, none⟩ = some (.int .i64 (x.kind : Nat)) := by simp [World.cell?, X1]
  have x1 : w1.cell? ⟨w.heap.size, 1, none⟩ = some (.int .i64 (x.cells : Nat)) := by simp [World.cell?, X1]
  have x2 : w1.cell? ⟨w.heap.size, 2, none⟩ = some (.int .i64 (x.raw : Nat)) := by simp [World.cell?, X1]
  have x3 : w1.cell? ⟨w.heap.size, 3, none⟩ = some (.int .i64 (n : Nat)) := by simp [World.cell?, X1]
  have x4 : w1.cell? ⟨w.heap.size, 4, none⟩ = some (.int .i64 (col : Nat)) := by simp [World.cell?, X1]
  have x5 : w1.cell? ⟨w.heap.size, 5, none⟩ = some (.bool z) := by simp [World.cell?, X1]
  have x6 : w1.cell? ⟨w.heap.size, 6, none⟩ = some (.bool false) := by simp [World.cell?, X1]
  have hl1 := lt_of_block X1
  have c1 := G1.fr.cell0 c0
  have hp1 : p < w1.heap.size := by omega
  have hp2 : p < w1.heap.size + 1 := by omega
  have hp3 : p < w1.heap.size + 1 + 1 := by omega
  have hl2 : w.heap.size < w1.heap.size + 1 := by omega
  have hl3 : w.heap.size < w1.heap.size + 1 + 1 := by omega
  have HF1 := Lib.hid G1.fr
  clear X1 G1
  go_wp2_with (go_at_call 101; refine (HR.out _).mono ?_; rintro e w2 ⟨rfl, o2, rfl⟩)
  go_region_with (first
    | (go_at_call 104; refine (HH.out _).mono ?_; rintro e w4 ⟨rfl, hb4⟩; have F4 := (((HF1.out.alloc _).alloc _).drew).below hb4; have c4 := F4.cell0 c0; have HF4 := Lib.hid F4; clear hb4 F4)
    | (go_at_call 53; refine (HWr.out _ (by repeat (first | exact HF4.out | exact HF1.out | refine Fr.drew ?_ | refine Fr.alloc ?_ _))).mono ?_; rintro e w5 ⟨rfl, o5, F5, S5⟩; have H5 := Lib.hid F5; clear F5; have HS5 := Lib.hid S5; clear S5))
  all_goals
    go_wp2_with fail
    go_ret
    exact ⟨rfl, o5, H5.out, HS5.out⟩
end Go.Proofs.YtlpklloagaccoaaGreat
