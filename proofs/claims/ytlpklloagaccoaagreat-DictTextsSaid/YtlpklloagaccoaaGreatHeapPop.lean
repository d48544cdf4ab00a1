/-  container/heap over the rows of least: down, Pop: what they leave, to the place. Conditions: the row is not empty, and not of more than 2^40 numbers. container/heap over the rows of least: Pop: what it hands back, and leaves. Conditions: the row is not empty, and not of more than 2^40 numbers. -/
import Derived.Test.YtlpklloagaccoaaGreatMaps
import Derived.Maps.Own
import Derived.Deep.RegionLaw
import Derived.Deep.AppendLies
import Derived.Deep.LoopGhost
namespace Go.Proofs.YtlpklloagaccoaaGreat
open Go.RowKit
set_option linter.unusedVariables false

theorem call_push (a : Addr) (w : World) : (method 355 182 (.pointer (some a)) "Push").run Tryz.prog w = .ok (261, .pointer (some a)) w := by kernel_rfl

theorem call_pop (a : Addr) (w : World) : (method 355 182 (.pointer (some a)) "Pop").run Tryz.prog w = .ok (260, .pointer (some a)) w := by kernel_rfl

theorem call_len0 (a : Addr) (w : World) : (method 355 182 (.pointer (some a)) "Len").run Tryz.prog w = (load a .plain >>= fun v => pure (184, v)).run Tryz.prog w := by kernel_rfl

theorem call_less0 (a : Addr) (w : World) : (method 355 182 (.pointer (some a)) "Less").run Tryz.prog w = (load a .plain >>= fun v => pure (258, v)).run Tryz.prog w := by kernel_rfl

theorem call_swap0 (a : Addr) (w : World) : (method 355 182 (.pointer (some a)) "Swap").run Tryz.prog w = (load a .plain >>= fun v => pure (259, v)).run Tryz.prog w := by kernel_rfl

theorem call_len {a : Addr} {v : Value} {w : World} (h : w.cell? a = some v) : (method 355 182 (.pointer (some a)) "Len").run Tryz.prog w = .ok (184, v) w := by
  rw [call_len0]; simp [h]

theorem call_less {a : Addr} {v : Value} {w : World} (h : w.cell? a = some v) : (method 355 182 (.pointer (some a)) "Less").run Tryz.prog w = .ok (258, v) w := by
  rw [call_less0]; simp [h]

theorem call_swap {a : Addr} {v : Value} {w : World} (h : w.cell? a = some v) : (method 355 182 (.pointer (some a)) "Swap").run Tryz.prog w = .ok (259, v) w := by
  rw [call_swap0]; simp [h]

theorem row_len (v : Value) (a : Option Addr) (n cap : Nat) (w : World) : Calls Tryz.prog 184 #[.slice a n cap] w fun e w' => e = .returned (.int .i64 n) ∧ w = w' := by
  go_enter Tryz.func184, Tryz.ntmps184
  go_wp2
  go_ret
  exact ⟨rfl, rfl⟩

/-- A row of numbers: block g, room for cap. -/
def RowB (w : World) (g cap : Nat) (xs : List Int) : Prop :=
  ∃ cur, w.heap[g]? = some (.cells cur 3 (0, 0)) ∧ cur.size = cap ∧ xs.length ≤ cap ∧ cap ≤ maxLen ∧ cur.toList.take xs.length = xs.map (Value.int .i64)
theorem RowB.cell {w : World} {g cap : Nat} {xs : List Int} (h : RowB w g cap xs) {i : Nat} (hi : i < xs.length) : w.cell? ⟨g, i, none⟩ = some (.int .i64 (xs.getD i 0)) := by
  obtain ⟨cur, hb, hs, hl, hm, ht⟩ := h
  have h1 : (cur.toList.take xs.length)[i]? = (xs.map (Value.int .i64))[i]? := by rw [ht]
  rw [List.getElem?_take_of_lt hi] at h1
  simp only [World.cell?, hb]
  rw [← Array.getElem?_toList, ]
  simp only [Option.isSome_none, Bool.false_eq_true, if_false]
  rw [h1]
  simp [hi]
theorem RowB.free {w : World} {g cap : Nat} {xs : List Int} (h : RowB w g cap xs) (i : Nat) : w.frozen? ⟨g, i, none⟩ = false := by
  obtain ⟨cur, hb, _⟩ := h
  simp [World.frozen?, hb]
theorem RowB.lt {w : World} {g cap : Nat} {xs : List Int} (h : RowB w g cap xs) : g < w.heap.size := let ⟨_, hb, _⟩ := h; lt_of_block hb
theorem RowB.of_eq {w w' : World} {g cap : Nat} {xs : List Int} (h : RowB w g cap xs) (e : w'.heap[g]? = w.heap[g]?) : RowB w' g cap xs := let ⟨c, hb, r⟩ := h; ⟨c, e.trans hb, r⟩
def swapL (xs : List Int) (i j : Nat) : List Int := (xs.set i (xs.getD j 0)).set j (xs.getD i 0)
theorem swapL_length (xs : List Int) (i j : Nat) : (swapL xs i j).length = xs.length := by simp [swapL]
theorem swapL_perm {xs : List Int} {i j : Nat} (hi : i < xs.length) (hj : j < xs.length) : (swapL xs i j).Perm xs := by
  have h := List.set_set_perm hi hj
  have e1 : xs.getD j 0 = xs[j] := by simp [List.getD, hj]
  have e2 : xs.getD i 0 = xs[i] := by simp [List.getD, hi]
  unfold swapL
  rw [e1, e2]
  exact h
theorem RowB.set {w : World} {g cap : Nat} {xs : List Int} (h : RowB w g cap xs) {i : Nat} (hi : i < xs.length) (x : Int) : RowB (w.setCell ⟨g, i, none⟩ (.int .i64 x)) g cap (xs.set i x) := by
  obtain ⟨cur, hb, hs, hl, hm, ht⟩ := h
  refine ⟨_, heap_set hb i _, by simpa using hs, by simpa using hl, hm, ?_⟩
  simp only [Array.toList_setIfInBounds, List.length_set, List.map_set]
  rw [List.take_set, ht]
/-- Only block g has turned. -/
structure OnlyBlk (w w' : World) (g : Nat) : Prop where
  os : w'.os = w.os
  tape : w'.tape = w.tape
  output : w'.output = w.output
  size : w'.heap.size = w.heap.size
  block : ∀ b, b ≠ g → w'.heap[b]? = w.heap[b]?
theorem OnlyBlk.refl (w : World) (g : Nat) : OnlyBlk w w g := ⟨rfl, rfl, rfl, rfl, fun _ _ => rfl⟩
theorem OnlyBlk.trans {w w1 w2 : World} {g : Nat} (h : OnlyBlk w w1 g) (k : OnlyBlk w1 w2 g) : OnlyBlk w w2 g :=
  ⟨k.os.trans h.os, k.tape.trans h.tape, k.output.trans h.output, k.size.trans h.size, fun b hb => (k.block b hb).trans (h.block b hb)⟩
theorem OnlyBlk.set (w : World) (g i : Nat) (v : Value) : OnlyBlk w (w.setCell ⟨g, i, none⟩ v) g := ⟨rfl, rfl, rfl, by simp, fun b hb => Below.heap_setCell _ _ _ _ hb⟩
theorem OnlyBlk.drewN (w : World) (g n : Nat) : OnlyBlk w (w.drewN n) g := ⟨rfl, rfl, rfl, rfl, fun _ _ => rfl⟩
theorem OnlyBlk.cell {w w' : World} {g : Nat} (h : OnlyBlk w w' g) {a : Addr} (ha : a.block ≠ g) : w'.cell? a = w.cell? a := World.cell?_of_block (h.block a.block ha)
theorem OnlyBlk.frozen {w w' : World} {g : Nat} (h : OnlyBlk w w' g) {a : Addr} (ha : a.block ≠ g) : w'.frozen? a = w.frozen? a := World.frozen?_of_block (h.block a.block ha)

set_option maxHeartbeats 400000 in
theorem row_less {g cap : Nat} {xs : List Int} (i j : Int) (w : World) (R : RowB w g cap xs) (hi0 : 0 ≤ i) (hi : i < (xs.length : Int)) (hj0 : 0 ≤ j) (hj : j < (xs.length : Int)) :
    Calls Tryz.prog 258 #[.slice (some ⟨g, 0, none⟩) xs.length cap, .int .i64 i, .int .i64 j] w fun e w' => e = .returned (.bool (decide (xs.getD i.toNat 0 < xs.getD j.toNat 0))) ∧ ∃ m, w' = w.drewN m := by
  have hx := R.cell (i := i.toNat) (by omega)
  have hy := R.cell (i := j.toNat) (by omega)
  clear R
  generalize xs.getD i.toNat 0 = x at *
  generalize xs.getD j.toNat 0 = y at *
  go_enter Tryz.func258, Tryz.ntmps258
  go_wp2
  go_quiet (fail)
  go_wp2
  go_ret
  exact ⟨rfl, nq, rfl⟩

set_option maxHeartbeats 400000 in
theorem row_swap {g cap : Nat} {xs : List Int} (i j : Int) (w : World) (R : RowB w g cap xs) (hi0 : 0 ≤ i) (hi : i < (xs.length : Int)) (hj0 : 0 ≤ j) (hj : j < (xs.length : Int)) (hne : ¬ i = j) :
    Calls Tryz.prog 259 #[.slice (some ⟨g, 0, none⟩) xs.length cap, .int .i64 i, .int .i64 j] w fun e w' => e = .returned (.tuple #[]) ∧ RowB w' g cap (swapL xs i.toNat j.toNat) ∧ OnlyBlk w w' g := by
  have hx := R.cell (i := i.toNat) (by omega)
  have hy := R.cell (i := j.toNat) (by omega)
  have fi := R.free i.toNat
  have fj := R.free j.toNat
  have hne' : ¬ i.toNat = j.toNat := by omega
  have HF : Hid (RowB ((w.setCell ⟨g, i.toNat, none⟩ (.int .i64 (xs.getD j.toNat 0))).setCell ⟨g, j.toNat, none⟩ (.int .i64 (xs.getD i.toNat 0))) g cap (swapL xs i.toNat j.toNat)) :=
    (R.set (by omega) _).set (by simp; omega) _
  clear R
  unfold swapL at HF ⊢
  generalize xs.getD i.toNat 0 = x at *
  generalize xs.getD j.toNat 0 = y at *
  go_enter Tryz.func259, Tryz.ntmps259
  go_wp2
  go_region
  all_goals
    go_end0
    exact ⟨rfl, HF.out.of_eq rfl, ⟨rfl, rfl, rfl, by simp, fun b hb => (Below.heap_setCell _ _ _ _ hb).trans (Below.heap_setCell _ _ _ _ hb)⟩⟩

theorem infoInt : (Tryz.prog.info? 3).map (fun i => (i.zero, i.size, i.bytes)) = some (some (.int .i64 0), 1, 8) := by kernel_rfl

/-- A row as a slice's value. -/
def Row (w : World) (v : Value) (xs : List Int) : Prop := w.ownsRow 0 3 1 v xs.length (xs.map (Value.int .i64))
theorem Row.rowB {w : World} {g n cap : Nat} {xs : List Int} (h : Row w (.slice (some ⟨g, 0, none⟩) n cap) xs) : RowB w g cap xs ∧ n = xs.length := by
  obtain ⟨h1, h2⟩ := h
  rcases h2 with ⟨h2, _⟩ | ⟨g', cap', cur, hv, _, hb, hn, hm, hs, ht⟩
  · cases h2
  · simp only [Value.slice.injEq, Option.some.injEq, Addr.mk.injEq] at hv
    obtain ⟨⟨rfl, _⟩, rfl, rfl⟩ := hv
    exact ⟨⟨cur, hb, by simpa using hs, hn, hm, by simpa using ht⟩, rfl⟩
theorem RowB.row {w : World} {g cap : Nat} {xs : List Int} (h : RowB w g cap xs) : Row w (.slice (some ⟨g, 0, none⟩) xs.length cap) xs := by
  obtain ⟨cur, hb, hs, hl, hm, ht⟩ := h
  exact ⟨by simp, .inr ⟨g, cap, cur, rfl, Nat.zero_le _, hb, hl, hm, by simpa using hs, by simpa using ht⟩⟩
theorem Row.form {w : World} {v : Value} {xs : List Int} (h : Row w v xs) : (v = .slice none 0 0 ∧ xs = []) ∨ ∃ g cap, v = .slice (some ⟨g, 0, none⟩) xs.length cap ∧ RowB w g cap xs := by
  obtain ⟨h1, h2⟩ := h
  rcases h2 with ⟨h2, h3⟩ | ⟨g, cap, cur, hv, _, hb, hn, hm, hs, ht⟩
  · exact .inl ⟨h2, List.eq_nil_of_length_eq_zero h3⟩
  · exact .inr ⟨g, cap, hv, cur, hb, by simpa using hs, hn, hm, by simpa using ht⟩
theorem Row.nil (w : World) : Row w (.slice none 0 0) [] := World.ownsRow_nil w 0 _ 1
/-- Only block p, and a row's, have turned; new blocks may have come. -/
structure RowFr (w w' : World) (p : Nat) (ob : Option Nat) : Prop where
  os : w'.os = w.os
  tape : w'.tape = w.tape
  output : w'.output = w.output
  size : w.heap.size ≤ w'.heap.size
  block : ∀ b, b < w.heap.size → b ≠ p → some b ≠ ob → w'.heap[b]? = w.heap[b]?
/-- Behind a call that turns the row in cell off of block p. -/
def RowPost (w : World) (p off : Nat) (cs : Array Value) (T : TypeId) (v : Value) (ys : List Int) (w' : World) : Prop :=
  ∃ g cap, w'.heap[p]? = some (.cells (cs.setIfInBounds off (.slice (some ⟨g, 0, none⟩) ys.length cap)) T (0, 0)) ∧ RowB w' g cap ys ∧ (v.ownBlock = some g ∨ w.heap.size ≤ g) ∧ g ≠ p ∧ RowFr w w' p v.ownBlock
def PushPost (w : World) (p off : Nat) (cs : Array Value) (T : TypeId) (v : Value) (ys : List Int) (e : Ending) (w' : World) : Prop := e = .returned (.tuple #[]) ∧ RowPost w p off cs T v ys w'

theorem push_close {w w1 : World} {o : Obj} {p off g cap : Nat} {cs : Array Value} {T : TypeId} {v : Value} {xs : List Int} {x : Int} (hp : w.heap[p]? = some (.cells cs T (0, 0))) (hne : v.ownBlock ≠ some p)
    (hown : w1.ownsRow 0 3 1 (.slice (some ⟨g, 0, none⟩) (xs.length + 1) cap) (xs.length + 1) (xs.map (Value.int .i64) ++ [.int .i64 x])) (hgrow : ((w.alloc o).drew).grownBy w1 v.ownBlock) (hat : v.ownBlock = some g ∨ g = w.heap.size + 1) :
    RowPost w p off cs T v (xs ++ [x]) (w1.setCell ⟨p, off, none⟩ (.slice (some ⟨g, 0, none⟩) (xs.length + 1) cap)) := by
  have hplt := lt_of_block hp
  have hsz : w.heap.size + 1 ≤ w1.heap.size := by have := hgrow.size; simpa using this
  have hp1 : w1.heap[p]? = some (.cells cs T (0, 0)) := (hgrow.block p (by simp; omega) (fun e => hne e.symm)).trans ((heap_alloc_old w o hplt).trans hp)
  have hgp : g ≠ p := by
    rcases hat with h | h
    · intro e; subst e; exact hne h
    · omega
  have R : RowB w1 g cap (xs ++ [x]) := (Row.rowB (xs := xs ++ [x]) (n := xs.length + 1) (by simpa [Row] using hown)).1
  refine ⟨g, cap, by simpa using heap_set hp1 off _, R.of_eq (Below.heap_setCell _ _ _ _ hgp), ?_, hgp, ⟨hgrow.os, hgrow.tape, hgrow.output, by simp; omega, fun b hb h1 h2 => ?_⟩⟩
  · rcases hat with h | h
    · exact .inl h
    · exact .inr (by omega)
  · rw [Below.heap_setCell _ _ _ _ h1]
    exact (hgrow.block b (by simp; omega) h2).trans (heap_alloc_old w o hb)

set_option maxHeartbeats 1000000 in
theorem row_push {p off : Nat} {cs : Array Value} {T : TypeId} {v : Value} {xs : List Int} (x : Int) (w : World) (hp : w.heap[p]? = some (.cells cs T (0, 0))) (hc : cs[off]? = some v) (R : Row w v xs) (hne : v.ownBlock ≠ some p) (hl : xs.length < 1099511627776) :
    Calls Tryz.prog 261 #[.pointer (some ⟨p, off, none⟩), .iface 3 (.int .i64 x)] w (PushPost w p off cs T v (xs ++ [x])) := by
  have hplt := lt_of_block hp
  have c0 : w.cell? ⟨p, off, none⟩ = some v := by simp [World.cell?, hp, hc]
  have f0 : w.frozen? ⟨p, off, none⟩ = false := by simp [World.frozen?, hp]
  obtain ⟨i0, hi, hz0, hz1, hz2⟩ := info_parts infoInt
  have hown : ∀ o, (w.alloc o).drew.ownsRow 0 3 1 v xs.length (xs.map (Value.int .i64)) := fun o => R.alloc o
  have hta : ∀ w : World, (Instr.typeAssert (.iface 3 (.int .i64 x)) 20 3 false).run Tryz.prog w = .ok (.int .i64 x) w := fun _ => by kernel_rfl
  go_enter Tryz.func261, Tryz.ntmps261
  go_wp2
  have hb1 : ((w.alloc (.cells #[.int .i64 x] 3)).drew).heap[w.heap.size]? = some (.cells #[.int .i64 x] 3 (0, 0)) := heap_alloc_new w _
  have hn1 : ∀ (j : Nat) (u : Value), [Value.int .i64 x][j]? = some u → ((w.alloc (.cells #[.int .i64 x] 3)).drew).cell? ((⟨w.heap.size, 0, none⟩ : Addr).add j) = some u := World.news_of_block hb1
  have h11 : ∀ u ∈ [Value.int .i64 x], u.oneCell' = true := by simp [Value.oneCell']
  have hm63 : xs.length + 1 ≤ maxLen := by unfold maxLen; omega
  have hby : (xs.length + 1) * 8 ≤ 140737488355328 := by omega
  have HN := Lib.hid hn1
  clear hn1 hb1
  go_region_law ((refine step_append_lies _ rfl _ _ 155 rfl 0 3 i0 (.int .i64 0) 1 8 Tryz.underlying155 hi hz0 hz1 hz2 rfl (by decide) v xs.length _ rfl (hown _) ⟨w.heap.size, 0, none⟩ 1 1 [.int .i64 x] rfl rfl HN.out h11 (by decide) hm63 hby (Nat.zero_le _) (w.heap.size + 1) (by simp) ?_; intro g cap w1 hown1 hgrow hat hlt; (have c1 : w1.cell? ⟨p, off, none⟩ = some v := ((hgrow.cell_far ⟨p, off, none⟩ (by simp; omega) (fun e => hne e.symm)).trans (by simp [World.cell?_alloc_past, hplt, c0]))); (have f1 : w1.frozen? ⟨p, off, none⟩ = false := ((hgrow.frozen_far ⟨p, off, none⟩ (by simp; omega) (fun e => hne e.symm)).trans (by simp [World.frozen?_alloc_past, hplt, f0])))))
  all_goals
    go_end0
    exact ⟨rfl, push_close hp hne hown1 hgrow hat⟩

/-- Nothing goes up from place j. -/
def NoUp (xs : List Int) (j : Nat) : Prop := j = 0 ∨ ¬ xs.getD j 0 < xs.getD ((j - 1) / 2) 0
def UpPost (w : World) (g cap : Nat) (xs : List Int) (j : Nat) (e : Ending) (w' : World) : Prop :=
  e = .returned (.tuple #[]) ∧ OnlyBlk w w' g ∧ ∃ ys, ys.Perm xs ∧ RowB w' g cap ys ∧ (NoUp xs j → ys = xs)

set_option maxRecDepth 100000 in
set_option maxHeartbeats 1000000 in
theorem heap_up {p off g cap : Nat} {xs : List Int} (j : Nat) (w : World) (hc : w.cell? ⟨p, off, none⟩ = some (.slice (some ⟨g, 0, none⟩) xs.length cap)) (hpg : ¬ p = g) (R : RowB w g cap xs) (hj : j < xs.length) (hl : xs.length < 1099511627776) :
    Calls Tryz.prog 201 #[.iface 182 (.pointer (some ⟨p, off, none⟩)), .int .i64 j] w (UpPost w g cap xs j) := by
  go_enter Tryz.func201, Tryz.ntmps201
  go_wp2
  go_loopw [1] (fun jv wr => ∃ (k : Nat) (ys : List Int), jv = .int .i64 k ∧ k < xs.length ∧ ys.Perm xs ∧ RowB wr g cap ys ∧ OnlyBlk w wr g ∧ (NoUp xs j → k = j ∧ ys = xs)) (fun jv _ => (intOf jv).toNat)
  case atStart => exact ⟨j, xs, rfl, hj, List.Perm.refl _, R, OnlyBlk.refl _ _, fun _ => ⟨rfl, rfl⟩⟩
  case round =>
    obtain ⟨k, ys, rfl, hk, hyp, Ry, ho, hno⟩ := hrel
    have HYP := Lib.hid hyp
    have hys := hyp.length_eq
    clear hyp
    have hcr : wr.cell? ⟨p, off, none⟩ = some (.slice (some ⟨g, 0, none⟩) ys.length cap) := by
      rw [ho.cell hpg, hys]; exact hc
    have hlen : k < ys.length := by omega
    have HY := Lib.hid hys
    clear hc hys
    have hless : ∀ m, (method 355 182 (.pointer (some ⟨p, off, none⟩)) "Less").run Tryz.prog (wr.drewN m) = .ok (258, .slice (some ⟨g, 0, none⟩) ys.length cap) (wr.drewN m) := fun m => call_less (w := wr.drewN m) hcr
    have hless0 := hless 0
    have hswap : ∀ m, (method 355 182 (.pointer (some ⟨p, off, none⟩)) "Swap").run Tryz.prog (wr.drewN m) = .ok (259, .slice (some ⟨g, 0, none⟩) ys.length cap) (wr.drewN m) := fun m => call_swap (w := wr.drewN m) hcr
    simp only [World.drewN_zero] at hless0
    rcases Nat.eq_zero_or_pos k with hk0 | hk0
    · subst hk0
      go_wp2
      go_end0
      exact ⟨rfl, ho, ys, HYP.out, Ry, fun h => (hno h).2⟩
    · have hq : ((k : Int) - 1).tdiv 2 = ((k - 1) / 2 : Nat) := by rw [Int.tdiv_eq_ediv_of_nonneg (by omega)]; omega
      have hlt : (((k - 1) / 2 : Nat) : Int) < (k : Int) := by omega
      have hb : (((k - 1) / 2 : Nat) == k) = false := by simp; omega
      have hb' : ((((k - 1) / 2 : Nat) : Int) == (k : Int)) = false := by simp; omega
      by_cases hx : ys.getD k 0 < ys.getD ((k - 1) / 2) 0
      · have hd : decide (ys.getD k 0 < ys.getD ((k - 1) / 2) 0) = true := by simpa using hx
        have hd' : decide (ys.getD (k : Int).toNat 0 < ys.getD (((k - 1 : Nat) : Int) / 2).toNat 0) = true := by
          rw [Int.toNat_natCast, show (((k - 1 : Nat) : Int) / 2).toNat = (k - 1) / 2 by omega]; exact hd
        go_wp2_with (first
          | (go_at_call 258; refine (row_less _ _ _ Ry (by omega) (by omega) (by omega) (by omega)).mono ?_; rintro e w1 ⟨rfl, m, rfl⟩; rw [hd'])
          | (go_at_call 259; refine (row_swap _ _ (wr.drewN m) (Ry.of_eq rfl) (by omega) (by omega) (by omega) (by omega) (by omega)).mono ?_; rintro e w2 ⟨rfl, hR2, ho2⟩))
        go_roundw
        case rel => exact ⟨(k - 1) / 2, _, by go_num, by omega, (swapL_perm (by omega) (by omega)).trans HYP.out, hR2, (ho.trans (OnlyBlk.drewN _ _ _)).trans ho2, fun h => by
          obtain ⟨rfl, rfl⟩ := hno h
          rcases h with h | h
          · omega
          · exact absurd hx h⟩
        case measure => simp [intOf]; omega
      · have hd' : decide (ys.getD (k : Int).toNat 0 < ys.getD (((k - 1 : Nat) : Int) / 2).toNat 0) = false := by
          rw [Int.toNat_natCast, show (((k - 1 : Nat) : Int) / 2).toNat = (k - 1) / 2 by omega]; simpa using hx
        go_wp2_with (go_at_call 258; refine (row_less _ _ _ Ry (by omega) (by omega) (by omega) (by omega)).mono ?_; rintro e w1 ⟨rfl, m, rfl⟩; rw [hd'])
        go_end0
        exact ⟨rfl, ho.trans (OnlyBlk.drewN _ _ _), ys, HYP.out, Ry.of_eq rfl, fun h => (hno h).2⟩

theorem OnlyBlk.rowPost {w w1 w2 : World} {p off g cap : Nat} {cs : Array Value} {T : TypeId} {v : Value} {xs ys : List Int} (hp1 : w1.heap[p]? = some (.cells (cs.setIfInBounds off (.slice (some ⟨g, 0, none⟩) xs.length cap)) T (0, 0)))
    (hat : v.ownBlock = some g ∨ w.heap.size ≤ g) (hgp : g ≠ p) (hf : RowFr w w1 p v.ownBlock) (ho : OnlyBlk w1 w2 g) (hl : ys.length = xs.length) (R : RowB w2 g cap ys) : RowPost w p off cs T v ys w2 := by
  refine ⟨g, cap, by rw [hl]; exact (ho.block p (Ne.symm hgp)).trans hp1, R, hat, hgp, ⟨ho.os.trans hf.os, ho.tape.trans hf.tape, ho.output.trans hf.output, by rw [ho.size]; exact hf.size, fun b hb h1 h2 => ?_⟩⟩
  refine (ho.block b (fun e => ?_)).trans (hf.block b hb h1 h2)
  subst e
  rcases hat with h | h
  · exact h2 h.symm
  · omega
/-- Behind heap.Push. -/
def HeapPushPost (w : World) (p off : Nat) (cs : Array Value) (T : TypeId) (v : Value) (xs : List Int) (x : Int) (e : Ending) (w' : World) : Prop :=
  e = .returned (.tuple #[]) ∧ ∃ ys, ys.Perm (xs ++ [x]) ∧ (NoUp (xs ++ [x]) xs.length → ys = xs ++ [x]) ∧ RowPost w p off cs T v ys w'

set_option maxRecDepth 100000 in
set_option maxHeartbeats 1000000 in
theorem heap_push {p off : Nat} {cs : Array Value} {T : TypeId} {v : Value} {xs : List Int} (x : Int) (w : World) (hp : w.heap[p]? = some (.cells cs T (0, 0))) (hc : cs[off]? = some v) (R : Row w v xs) (hne : v.ownBlock ≠ some p) (hl : xs.length < 1099511627775) :
    Calls Tryz.prog 173 #[.iface 182 (.pointer (some ⟨p, off, none⟩)), .iface 3 (.int .i64 x)] w (HeapPushPost w p off cs T v xs x) := by
  have hpush := fun w => call_push ⟨p, off, none⟩ w
  have hoff : off < cs.size := (Array.getElem?_eq_some_iff.1 hc).1
  have H1 := Lib.hid (row_push (T := T) x w hp hc R hne (by omega))
  clear hp hc R hne
  go_enter Tryz.func173, Tryz.ntmps173
  go_wp2_with (go_at_call 261; refine H1.out.mono ?_)
  rintro e w1 ⟨rfl, g, cap, hp1, R1, hat, hgp, hf⟩
  have hlen : (xs ++ [x]).length = xs.length + 1 := by simp
  have hc1 : w1.cell? ⟨p, off, none⟩ = some (.slice (some ⟨g, 0, none⟩) (xs.length + 1) cap) := by simp [World.cell?, hp1, hoff]
  have hlen1 := call_len hc1
  have HL := Lib.hid hlen
  clear hlen
  have H2 := Lib.hid (heap_up (p := p) (off := off) xs.length w1 (by rw [HL.out]; exact hc1) (fun e => hgp e.symm) R1 (by rw [HL.out]; omega) (by rw [HL.out]; omega))
  go_wp2_with (first
    | (go_at_call 184; refine (row_len .nilIface _ _ _ _).mono ?_; rintro e w2 ⟨rfl, rfl⟩)
    | (go_at_call 201; refine H2.out.mono ?_; rintro e w3 ⟨rfl, ho, ys, hy1, hy2, hy3⟩))
  go_end0
  exact ⟨rfl, ys, hy1, hy3, ho.rowPost hp1 hat hgp hf hy1.length_eq hy2⟩
end Go.Proofs.YtlpklloagaccoaaGreat
namespace Go.Proofs.YtlpklloagaccoaaGreat
open Go.RowKit
set_option linter.unusedVariables false

/-- The lesser child. -/
def pickJ (xs : List Int) (i n : Nat) : Nat := if 2 * i + 2 < n ∧ xs.getD (2 * i + 2) 0 < xs.getD (2 * i + 1) 0 then 2 * i + 2 else 2 * i + 1
/-- What heap's down leaves. -/
def downL : Nat → List Int → Nat → Nat → List Int
  | 0, xs, _, _ => xs
  | f + 1, xs, i, n =>
    if n ≤ 2 * i + 1 then xs else
    if xs.getD (pickJ xs i n) 0 < xs.getD i 0 then downL f (swapL xs i (pickJ xs i n)) (pickJ xs i n) n else xs
theorem downL_succ (f : Nat) (xs : List Int) (i n : Nat) : downL (f + 1) xs i n =
    if n ≤ 2 * i + 1 then xs else
    if xs.getD (pickJ xs i n) 0 < xs.getD i 0 then downL f (swapL xs i (pickJ xs i n)) (pickJ xs i n) n else xs := rfl
theorem downL_end {f : Nat} {xs : List Int} {i n : Nat} (h : n ≤ 2 * i + 1) : downL f xs i n = xs := by
  cases f with
  | zero => rfl
  | succ f => rw [downL_succ, if_pos h]
theorem downL_step {f k n j : Nat} {ys : List Int} (h1 : 2 * k + 1 < n) (hj : (j = 2 * k + 2 ∧ 2 * k + 2 < n ∧ ys.getD (2 * k + 2) 0 < ys.getD (2 * k + 1) 0) ∨ (j = 2 * k + 1 ∧ ¬ (2 * k + 2 < n ∧ ys.getD (2 * k + 2) 0 < ys.getD (2 * k + 1) 0))) :
    downL (f + 1) ys k n = if ys.getD j 0 < ys.getD k 0 then downL f (swapL ys k j) j n else ys := by
  have hp : pickJ ys k n = j := by
    unfold pickJ
    rcases hj with ⟨rfl, h2, h3⟩ | ⟨rfl, h2⟩
    · rw [if_pos ⟨h2, h3⟩]
    · rw [if_neg h2]
  rw [downL_succ, if_neg (by omega), hp]
theorem downL_length : ∀ (f : Nat) (xs : List Int) (i n : Nat), (downL f xs i n).length = xs.length
  | 0, _, _, _ => rfl
  | f + 1, xs, i, n => by
    rw [downL_succ]
    split
    · rfl
    · split
      · exact (downL_length f _ _ n).trans (swapL_length _ _ _)
      · rfl
theorem row_less_n {g cap : Nat} {xs : List Int} (i j : Int) (i' j' : Nat) (w : World) (R : RowB w g cap xs) (hi : i = i') (hj : j = j') (hi' : i' < xs.length) (hj' : j' < xs.length) (b : Bool) (hb : decide (xs.getD i' 0 < xs.getD j' 0) = b) :
    Calls Tryz.prog 258 #[.slice (some ⟨g, 0, none⟩) xs.length cap, .int .i64 i, .int .i64 j] w fun e w' => e = .returned (.bool b) ∧ ∃ m, w' = w.drewN m := by
  subst hi hj hb
  exact row_less (i' : Int) (j' : Int) w R (by omega) (by omega) (by omega) (by omega)
theorem row_swap_n {g cap : Nat} {xs : List Int} (i j : Int) (i' j' : Nat) (w : World) (R : RowB w g cap xs) (hi : i = i') (hj : j = j') (hi' : i' < xs.length) (hj' : j' < xs.length) (hne : ¬ i' = j') :
    Calls Tryz.prog 259 #[.slice (some ⟨g, 0, none⟩) xs.length cap, .int .i64 i, .int .i64 j] w fun e w' => e = .returned (.tuple #[]) ∧ RowB w' g cap (swapL xs i' j') ∧ OnlyBlk w w' g := by
  subst hi hj
  exact row_swap (i' : Int) (j' : Int) w R (by omega) (by omega) (by omega) (by omega) (by omega)
def DownPost (w : World) (g cap : Nat) (zs : List Int) (e : Ending) (w' : World) : Prop := (∃ b, e = .returned (.bool b)) ∧ OnlyBlk w w' g ∧ RowB w' g cap zs

set_option maxRecDepth 100000 in
set_option maxHeartbeats 2000000 in
theorem heap_down {p off g cap : Nat} {xs : List Int} (n : Nat) (w : World) (hc : w.cell? ⟨p, off, none⟩ = some (.slice (some ⟨g, 0, none⟩) xs.length cap)) (hpg : ¬ p = g) (R : RowB w g cap xs) (hn : n < xs.length) (hl : xs.length < 1099511627776) :
    Calls Tryz.prog 205 #[.iface 182 (.pointer (some ⟨p, off, none⟩)), .int .i64 0, .int .i64 n] w (DownPost w g cap (downL n xs 0 n)) := by
  obtain ⟨D, HD0⟩ : ∃ D, D = downL n xs 0 n := ⟨_, rfl⟩
  rw [← HD0]
  have HD := Lib.hid HD0
  clear HD0
  go_enter Tryz.func205, Tryz.ntmps205
  go_wp2
  go_loopw [7] (fun iv wr => ∃ (k f : Nat) (ys : List Int), iv = .int .i64 k ∧ k ≤ n ∧ ys.length = xs.length ∧ RowB wr g cap ys ∧ OnlyBlk w wr g ∧ n ≤ f + k ∧ D = downL f ys k n) (fun iv _ => n - (intOf iv).toNat)
  case atStart => exact ⟨0, n, xs, rfl, Nat.zero_le _, rfl, R, OnlyBlk.refl _ _, by omega, HD.out⟩
  case round =>
    obtain ⟨k, f, ys, rfl, hk, hys, Ry, ho, hf, hD⟩ := hrel
    have hcr : wr.cell? ⟨p, off, none⟩ = some (.slice (some ⟨g, 0, none⟩) ys.length cap) := by
      rw [ho.cell hpg, hys]; exact hc
    have hlen : n < ys.length := by omega
    have HY := Lib.hid hys
    have HDD := Lib.hid hD
    clear hc hys hD HD
    have hless : ∀ m, (method 355 182 (.pointer (some ⟨p, off, none⟩)) "Less").run Tryz.prog (wr.drewN m) = .ok (258, .slice (some ⟨g, 0, none⟩) ys.length cap) (wr.drewN m) := fun m => call_less (w := wr.drewN m) hcr
    have hless0 := hless 0
    have hswap : ∀ m, (method 355 182 (.pointer (some ⟨p, off, none⟩)) "Swap").run Tryz.prog (wr.drewN m) = .ok (259, .slice (some ⟨g, 0, none⟩) ys.length cap) (wr.drewN m) := fun m => call_swap (w := wr.drewN m) hcr
    simp only [World.drewN_zero] at hless0
    by_cases h1 : n ≤ 2 * k + 1
    · have h1' : (n : Int) ≤ 2 * (k : Int) + 1 := by omega
      go_wp2
      all_goals
        go_ret
        exact ⟨⟨_, rfl⟩, ho, by rw [HDD.out, downL_end h1]; exact Ry⟩
    · have h1' : ¬ (n : Int) ≤ 2 * (k : Int) + 1 := by omega
      obtain ⟨f, rfl⟩ : ∃ f', f = f' + 1 := ⟨f - 1, by omega⟩
      by_cases h2 : 2 * k + 2 < n
      case neg =>
        have h2' : ¬ 2 * (k : Int) + 1 + 1 < (n : Int) := by omega
        have HJ : (2 * k + 1 = 2 * k + 2 ∧ 2 * k + 2 < n ∧ ys.getD (2 * k + 2) 0 < ys.getD (2 * k + 1) 0) ∨ (2 * k + 1 = 2 * k + 1 ∧ ¬ (2 * k + 2 < n ∧ ys.getD (2 * k + 2) 0 < ys.getD (2 * k + 1) 0)) := .inr ⟨rfl, fun h => h2 h.1⟩
        have HJ := Lib.hid HJ
        have hstep := Lib.hid (downL_step (f := f) (j := 2 * k + 1) (ys := ys) (n := n) (k := k) (by omega) HJ.out)
        by_cases h4 : ys.getD (2 * k + 1) 0 < ys.getD k 0
        · have B2 := Lib.hid (show decide (ys.getD (2 * k + 1) 0 < ys.getD k 0) = true by simpa using h4)
          have H4 := Lib.hid h4
          clear h4
          go_wp2_with fail
          refine (row_less_n _ _ (2 * k + 1) k wr Ry (by omega) (by omega) (by omega) (by omega) _ B2.out).mono ?_
          rintro e w2 ⟨rfl, m2, rfl⟩
          go_wp2_with fail
          refine (row_swap_n _ _ k (2 * k + 1) (wr.drewN m2) (RowB.of_eq (w := wr) Ry rfl) (by omega) (by omega) (by omega) (by omega) (by omega)).mono ?_
          rintro e w3 ⟨rfl, hR2, ho2⟩
          go_wp2
          go_roundw
          case rel => exact ⟨2 * k + 1, f, _, by go_num, by omega, (swapL_length _ _ _).trans HY.out, hR2, (ho.trans (OnlyBlk.drewN _ _ _)).trans ho2, by omega, by rw [HDD.out, hstep.out, if_pos H4.out]⟩
          case measure => simp [intOf]; omega
        · have B2 := Lib.hid (show decide (ys.getD (2 * k + 1) 0 < ys.getD k 0) = false by simpa using h4)
          have H4 := Lib.hid h4
          clear h4
          go_wp2_with fail
          refine (row_less_n _ _ (2 * k + 1) k wr Ry (by omega) (by omega) (by omega) (by omega) _ B2.out).mono ?_
          rintro e w2 ⟨rfl, m2, rfl⟩
          go_wp2
          all_goals
            go_ret
            exact ⟨⟨_, rfl⟩, ho.trans (OnlyBlk.drewN _ _ _), by rw [HDD.out, hstep.out, if_neg (by have := H4.out; omega)]; exact Ry.of_eq rfl⟩
      have h2' : 2 * (k : Int) + 1 + 1 < (n : Int) := by omega
      by_cases h3 : ys.getD (2 * k + 2) 0 < ys.getD (2 * k + 1) 0
      case neg =>
        have B1 := Lib.hid (show decide (ys.getD (2 * k + 2) 0 < ys.getD (2 * k + 1) 0) = false by simpa using h3)
        have HJ : (2 * k + 1 = 2 * k + 2 ∧ 2 * k + 2 < n ∧ ys.getD (2 * k + 2) 0 < ys.getD (2 * k + 1) 0) ∨ (2 * k + 1 = 2 * k + 1 ∧ ¬ (2 * k + 2 < n ∧ ys.getD (2 * k + 2) 0 < ys.getD (2 * k + 1) 0)) := .inr ⟨rfl, fun h => h3 h.2⟩
        have HJ := Lib.hid HJ
        have hstep := Lib.hid (downL_step (f := f) (j := 2 * k + 1) (ys := ys) (n := n) (k := k) (by omega) HJ.out)
        by_cases h4 : ys.getD (2 * k + 1) 0 < ys.getD k 0
        · have B2 := Lib.hid (show decide (ys.getD (2 * k + 1) 0 < ys.getD k 0) = true by simpa using h4)
          have H4 := Lib.hid h4
          clear h4
          go_wp2_with fail
          refine (row_less_n _ _ (2 * k + 2) (2 * k + 1) _ Ry (by omega) (by omega) (by omega) (by omega) _ B1.out).mono ?_
          rintro e w1 ⟨rfl, m1, rfl⟩
          go_wp2_with fail
          refine (row_less_n _ _ (2 * k + 1) k (wr.drewN m1) (Ry.of_eq rfl) (by omega) (by omega) (by omega) (by omega) _ B2.out).mono ?_
          rintro e w2 ⟨rfl, m2, rfl⟩
          go_wp2_with fail
          refine (row_swap_n _ _ k (2 * k + 1) (wr.drewN (m1 + m2)) (RowB.of_eq (w := wr) Ry rfl) (by omega) (by omega) (by omega) (by omega) (by omega)).mono ?_
          rintro e w3 ⟨rfl, hR2, ho2⟩
          go_wp2
          go_roundw
          case rel => exact ⟨2 * k + 1, f, _, by go_num, by omega, (swapL_length _ _ _).trans HY.out, hR2, (ho.trans (OnlyBlk.drewN _ _ _)).trans ho2, by omega, by rw [HDD.out, hstep.out, if_pos H4.out]⟩
          case measure => simp [intOf]; omega
        · have B2 := Lib.hid (show decide (ys.getD (2 * k + 1) 0 < ys.getD k 0) = false by simpa using h4)
          have H4 := Lib.hid h4
          clear h4
          go_wp2_with fail
          refine (row_less_n _ _ (2 * k + 2) (2 * k + 1) _ Ry (by omega) (by omega) (by omega) (by omega) _ B1.out).mono ?_
          rintro e w1 ⟨rfl, m1, rfl⟩
          go_wp2_with fail
          refine (row_less_n _ _ (2 * k + 1) k (wr.drewN m1) (Ry.of_eq rfl) (by omega) (by omega) (by omega) (by omega) _ B2.out).mono ?_
          rintro e w2 ⟨rfl, m2, rfl⟩
          go_wp2
          all_goals
            go_ret
            exact ⟨⟨_, rfl⟩, ho.trans (OnlyBlk.drewN _ _ _), by rw [HDD.out, hstep.out, if_neg (by have := H4.out; omega)]; exact Ry.of_eq rfl⟩
      have B1 := Lib.hid (show decide (ys.getD (2 * k + 2) 0 < ys.getD (2 * k + 1) 0) = true by simpa using h3)
      have HJ : (2 * k + 2 = 2 * k + 2 ∧ 2 * k + 2 < n ∧ ys.getD (2 * k + 2) 0 < ys.getD (2 * k + 1) 0) ∨ (2 * k + 2 = 2 * k + 1 ∧ ¬ (2 * k + 2 < n ∧ ys.getD (2 * k + 2) 0 < ys.getD (2 * k + 1) 0)) := .inl ⟨rfl, h2, h3⟩
      have HJ := Lib.hid HJ
      have hstep := Lib.hid (downL_step (f := f) (j := 2 * k + 2) (ys := ys) (n := n) (k := k) (by omega) HJ.out)
      by_cases h4 : ys.getD (2 * k + 2) 0 < ys.getD k 0
      · have B2 := Lib.hid (show decide (ys.getD (2 * k + 2) 0 < ys.getD k 0) = true by simpa using h4)
        have H4 := Lib.hid h4
        clear h4
        go_wp2_with fail
        refine (row_less_n _ _ (2 * k + 2) (2 * k + 1) _ Ry (by omega) (by omega) (by omega) (by omega) _ B1.out).mono ?_
        rintro e w1 ⟨rfl, m1, rfl⟩
        go_wp2_with fail
        refine (row_less_n _ _ (2 * k + 2) k (wr.drewN m1) (Ry.of_eq rfl) (by omega) (by omega) (by omega) (by omega) _ B2.out).mono ?_
        rintro e w2 ⟨rfl, m2, rfl⟩
        go_wp2_with fail
        refine (row_swap_n _ _ k (2 * k + 2) (wr.drewN (m1 + m2)) (RowB.of_eq (w := wr) Ry rfl) (by omega) (by omega) (by omega) (by omega) (by omega)).mono ?_
        rintro e w3 ⟨rfl, hR2, ho2⟩
        go_wp2
        go_roundw
        case rel => exact ⟨2 * k + 2, f, _, by go_num, by omega, (swapL_length _ _ _).trans HY.out, hR2, (ho.trans (OnlyBlk.drewN _ _ _)).trans ho2, by omega, by rw [HDD.out, hstep.out, if_pos H4.out]⟩
        case measure => simp [intOf]; omega
      · have B2 := Lib.hid (show decide (ys.getD (2 * k + 2) 0 < ys.getD k 0) = false by simpa using h4)
        have H4 := Lib.hid h4
        clear h4
        go_wp2_with fail
        refine (row_less_n _ _ (2 * k + 2) (2 * k + 1) _ Ry (by omega) (by omega) (by omega) (by omega) _ B1.out).mono ?_
        rintro e w1 ⟨rfl, m1, rfl⟩
        go_wp2_with fail
        refine (row_less_n _ _ (2 * k + 2) k (wr.drewN m1) (Ry.of_eq rfl) (by omega) (by omega) (by omega) (by omega) _ B2.out).mono ?_
        rintro e w2 ⟨rfl, m2, rfl⟩
        go_wp2
        all_goals
          go_ret
          exact ⟨⟨_, rfl⟩, ho.trans (OnlyBlk.drewN _ _ _), by rw [HDD.out, hstep.out, if_neg (by have := H4.out; omega)]; exact Ry.of_eq rfl⟩
end Go.Proofs.YtlpklloagaccoaaGreat
namespace Go.Proofs.YtlpklloagaccoaaGreat
open Go.RowKit
set_option linter.unusedVariables false

/-- Behind a row's own Pop. -/
def RowPopPost (w : World) (p off : Nat) (cs : Array Value) (T : TypeId) (g cap : Nat) (xs : List Int) (e : Ending) (w' : World) : Prop :=
  e = .returned (.iface 3 (.int .i64 (xs.getD (xs.length - 1) 0))) ∧ w'.heap[p]? = some (.cells (cs.setIfInBounds off (.slice (some ⟨g, 0, none⟩) (xs.length - 1) cap)) T (0, 0)) ∧ OnlyBlk w w' p

set_option maxHeartbeats 1000000 in
theorem row_pop {p off g cap : Nat} {cs : Array Value} {T : TypeId} {xs : List Int} (w : World) (hp : w.heap[p]? = some (.cells cs T (0, 0))) (hc : cs[off]? = some (.slice (some ⟨g, 0, none⟩) xs.length cap)) (R : RowB w g cap xs) (hl : 0 < xs.length) (hl2 : xs.length < 1099511627776) :
    Calls Tryz.prog 260 #[.pointer (some ⟨p, off, none⟩)] w (RowPopPost w p off cs T g cap xs) := by
  have c0 : w.cell? ⟨p, off, none⟩ = some (.slice (some ⟨g, 0, none⟩) xs.length cap) := by simp [World.cell?, hp, hc]
  have f0 : w.frozen? ⟨p, off, none⟩ = false := by simp [World.frozen?, hp]
  have c1 := R.cell (i := xs.length - 1) (by omega)
  have hcap : xs.length ≤ cap := R.choose_spec.2.2.1
  have HP := Lib.hid hp
  have hl' : (0 : Int) < (xs.length : Int) := by omega
  have hn : ((xs.length : Int) - 1).toNat = xs.length - 1 := by omega
  clear hp hc R
  go_enter Tryz.func260, Tryz.ntmps260
  go_wp2
  go_ret
  exact ⟨by simp, by simpa [hn] using heap_set HP.out off _, OnlyBlk.set _ _ _ _⟩

theorem set_same (xs : List Int) (i : Nat) (hi : i < xs.length) : xs.set i (xs.getD i 0) = xs := by
  apply List.ext_getElem?
  intro j
  rw [List.getElem?_set]
  split
  · rename_i h; subst h; simp [hi]
  · rfl
set_option maxHeartbeats 400000 in
theorem row_swap_same {g cap : Nat} {xs : List Int} (w : World) (R : RowB w g cap xs) (hl : 0 < xs.length) :
    Calls Tryz.prog 259 #[.slice (some ⟨g, 0, none⟩) xs.length cap, .int .i64 0, .int .i64 0] w fun e w' => e = .returned (.tuple #[]) ∧ RowB w' g cap xs ∧ OnlyBlk w w' g := by
  have hx := R.cell (i := 0) hl
  have fi := R.free 0
  have HF : Hid (RowB ((w.setCell ⟨g, 0, none⟩ (.int .i64 (xs.getD 0 0))).setCell ⟨g, 0, none⟩ (.int .i64 (xs.getD 0 0))) g cap xs) := by
    have h1 := R.set hl (xs.getD 0 0)
    rw [set_same _ _ hl] at h1
    have h2 := h1.set hl (xs.getD 0 0)
    rw [set_same _ _ hl] at h2
    exact h2
  have hl' : (0 : Int) < (xs.length : Int) := by omega
  clear R
  generalize xs.getD 0 0 = x at *
  have hx2 : (w.setCell ⟨g, 0, none⟩ (.int .i64 x)).cell? ⟨g, 0, none⟩ = some (.int .i64 x) := World.cell?_setCell_same _ _ _ hx
  go_enter Tryz.func259, Tryz.ntmps259
  go_wp2
  go_region
  all_goals
    go_end0
    exact ⟨rfl, HF.out.of_eq rfl, ⟨rfl, rfl, rfl, by simp, fun b hb => (Below.heap_setCell _ _ _ _ hb).trans (Below.heap_setCell _ _ _ _ hb)⟩⟩
theorem swapL_getD_other (xs : List Int) {i j m : Nat} (h1 : m ≠ i) (h2 : m ≠ j) : (swapL xs i j).getD m 0 = xs.getD m 0 := by
  simp [swapL, List.getD, List.getElem?_set_ne (Ne.symm h1), List.getElem?_set_ne (Ne.symm h2)]
theorem downL_getD : ∀ (f : Nat) (xs : List Int) (i n m : Nat), n ≤ m → (downL f xs i n).getD m 0 = xs.getD m 0
  | 0, _, _, _, _, _ => rfl
  | f + 1, xs, i, n, m, h => by
    rw [downL_succ]
    split
    · rfl
    · rename_i h1
      have hp : pickJ xs i n < n := by unfold pickJ; split <;> omega
      split
      · rw [downL_getD f _ _ n m h, swapL_getD_other _ (by omega) (by omega)]
      · rfl
theorem RowB.take {w : World} {g cap : Nat} {xs : List Int} (h : RowB w g cap xs) {n : Nat} (hn : n ≤ xs.length) : RowB w g cap (xs.take n) := by
  obtain ⟨cur, hb, hs, hl, hm, ht⟩ := h
  refine ⟨cur, hb, hs, by simp; omega, hm, ?_⟩
  have : (xs.take n).length = n := by simp [hn]
  rw [this, List.map_take, ← ht, List.take_take, Nat.min_eq_left hn]
/-- What is left behind heap.Pop. -/
def popL (xs : List Int) : List Int := (downL (xs.length - 1) (swapL xs 0 (xs.length - 1)) 0 (xs.length - 1)).take (xs.length - 1)
theorem popL_length (xs : List Int) : (popL xs).length = xs.length - 1 := by
  unfold popL; rw [List.length_take, downL_length, swapL_length]; omega
/-- Behind heap.Pop. -/
def HeapPopPost (w : World) (p off : Nat) (cs : Array Value) (T : TypeId) (g cap : Nat) (xs : List Int) (e : Ending) (w' : World) : Prop :=
  e = .returned (.iface 3 (.int .i64 (xs.getD 0 0))) ∧ w'.heap[p]? = some (.cells (cs.setIfInBounds off (.slice (some ⟨g, 0, none⟩) (xs.length - 1) cap)) T (0, 0)) ∧ RowB w' g cap (popL xs) ∧ RowFr w w' p (some g)

set_option maxRecDepth 100000 in
set_option maxHeartbeats 1000000 in
theorem heap_pop {p off g cap : Nat} {cs : Array Value} {T : TypeId} {xs : List Int} (w : World) (hp : w.heap[p]? = some (.cells cs T (0, 0))) (hc : cs[off]? = some (.slice (some ⟨g, 0, none⟩) xs.length cap)) (hpg : ¬ p = g) (R : RowB w g cap xs) (hl : 0 < xs.length) (hl2 : xs.length < 1099511627776) :
    Calls Tryz.prog 185 #[.iface 182 (.pointer (some ⟨p, off, none⟩))] w (HeapPopPost w p off cs T g cap xs) := by
  have c0 : w.cell? ⟨p, off, none⟩ = some (.slice (some ⟨g, 0, none⟩) xs.length cap) := by simp [World.cell?, hp, hc]
  have hlen0 := call_len c0
  have hswap0 := call_swap c0
  have hpop := fun w => call_pop ⟨p, off, none⟩ w
  have HP := Lib.hid hp
  have HC := Lib.hid hc
  clear hp hc
  obtain ⟨n, hn⟩ : ∃ n, xs.length = n + 1 := ⟨xs.length - 1, by omega⟩
  have HN := Lib.hid hn
  have hswap : ∃ ys, ys = swapL xs 0 n ∧ Calls Tryz.prog 259 #[.slice (some ⟨g, 0, none⟩) xs.length cap, .int .i64 0, .int .i64 ((xs.length : Int) - 1)] w fun e w' => e = .returned (.tuple #[]) ∧ RowB w' g cap ys ∧ OnlyBlk w w' g := by
    refine ⟨_, rfl, ?_⟩
    by_cases h0 : n = 0
    · subst h0
      have e1 : ((xs.length : Int) - 1) = 0 := by omega
      have e2 : swapL xs 0 0 = xs := by unfold swapL; rw [set_same _ _ (by omega), set_same _ _ (by omega)]
      rw [e1, e2]
      exact row_swap_same w R hl
    · exact row_swap_n _ _ 0 n w R rfl (by omega) (by omega) (by omega) (by omega)
  obtain ⟨ys, hys, hcs⟩ := hswap
  have hylen : ys.length = xs.length := by rw [hys, swapL_length]
  have HY := Lib.hid hys
  have HYL := Lib.hid hylen
  have HCS := Lib.hid hcs
  clear hys hylen hcs hn
  have hln : (0 : Int) ≤ (xs.length : Int) - 1 := by omega
  go_enter Tryz.func185, Tryz.ntmps185
  go_wp2_with (first
    | (go_at_call 184; refine (row_len .nilIface _ _ _ _).mono ?_; rintro e w2 ⟨rfl, rfl⟩)
    | (go_at_call 259; refine HCS.out.mono ?_; rintro e w1 ⟨rfl, R1, ho1⟩))
  have e1 : ((xs.length : Int) - 1) = (n : Int) := by have := HN.out; omega
  rw [e1]
  have c1 : w1.cell? ⟨p, off, none⟩ = some (.slice (some ⟨g, 0, none⟩) ys.length cap) := by rw [ho1.cell hpg, HYL.out]; exact c0
  refine (heap_down n w1 c1 hpg R1 (by rw [HYL.out, HN.out]; omega) (by rw [HYL.out]; exact hl2)).mono ?_
  rintro e w2 ⟨⟨b, rfl⟩, ho2, R2⟩
  have hp2 : w2.heap[p]? = some (.cells cs T (0, 0)) := (ho2.block p hpg).trans ((ho1.block p hpg).trans HP.out)
  have hzl : (downL n ys 0 n).length = xs.length := (downL_length _ _ _ _).trans HYL.out
  have H3 := Lib.hid (row_pop (off := off) w2 hp2 (by rw [hzl]; exact HC.out) R2 (by rw [hzl]; exact hl) (by rw [hzl]; exact hl2))
  clear hp2 hzl e1
  go_wp2_with (go_at_call 260; refine H3.out.mono ?_; rintro e w3 ⟨rfl, hp3, ho3⟩)
  go_ret
  have hn := HN.out
  have hzl : (downL n ys 0 n).length = xs.length := (downL_length _ _ _ _).trans HYL.out
  have hgp : g ≠ p := fun e => hpg e.symm
  refine ⟨?_, by rw [hzl] at hp3; exact hp3, ?_, ⟨ho3.os.trans (ho2.os.trans ho1.os), ho3.tape.trans (ho2.tape.trans ho1.tape), ho3.output.trans (ho2.output.trans ho1.output), by rw [ho3.size, ho2.size, ho1.size]; exact Nat.le_refl _, fun b hb h1 h2 => ?_⟩⟩
  · have e2 : (downL n ys 0 n).getD ((downL n ys 0 n).length - 1) 0 = xs.getD 0 0 := by
      rw [hzl, hn, Nat.add_sub_cancel, downL_getD _ _ _ _ _ (Nat.le_refl _), HY.out]
      unfold swapL
      rw [List.getD, List.getElem?_set_self (by simp; omega)]
      rfl
    simpa using congrArg (fun x => Ending.returned (Value.iface 3 (.int .i64 x))) e2
  · have e3 : popL xs = (downL n ys 0 n).take n := by unfold popL; rw [HY.out, hn, Nat.add_sub_cancel]
    rw [e3]
    exact (R2.of_eq (ho3.block g hgp)).take (by rw [hzl]; omega)
  · have hbg : b ≠ g := fun e => h2 (by rw [e])
    exact (ho3.block b h1).trans ((ho2.block b hbg).trans (ho1.block b hbg))
end Go.Proofs.YtlpklloagaccoaaGreat
