/- Words for what lies where: a ghost that names the owner of each block, frames over it, blocks that are known whole, and maps with whole numbers as keys, with the laws of their operations. No condition. Maps with whole numbers as keys: deleting, and the laws of their operations for the walk. No condition. -/
import Derived.Test.YtlpklloagaccoaaGreatRows
import Derived.WalkKit
import Derived.WalkSpells
import Derived.WalkLawsBesides
import Derived.Deep.QuietTactic
import Derived.BigQuiet
import Derived.Lib.Hide
namespace Go.Proofs.YtlpklloagaccoaaGreat
open Go.RowKit

theorem ret_int {k : IntKind} {a b : Int} (h : a = b) : Ending.returned (.int k a) = .returned (.int k b) := by rw [h]
theorem ret_bool {a b : Bool} (h : a = b) : Ending.returned (.bool a) = .returned (.bool b) := by rw [h]

/-! ### owners and frames -/
/-- Who owns a block: a ghost. 0: nobody that is spoken of. -/
abbrev Own := Nat → Nat
def Owned (o : Own) (w : World) : Prop := ∀ b, w.heap.size ≤ b → o b = 0
def Own.give (o : Own) (b r : Nat) : Own := fun k => if k = b then r else o k
/-- Only blocks of owners from lo to below hi have turned; new ones may have come. -/
structure Fr (lo hi : Nat) (o o' : Own) (w w' : World) : Prop where
  os : w'.os = w.os
  tape : w'.tape = w.tape
  output : w'.output = w.output
  size : w.heap.size ≤ w'.heap.size
  block : ∀ b, b < w.heap.size → (o b < lo ∨ hi ≤ o b) → w'.heap[b]? = w.heap[b]?
  own : ∀ b, b < w.heap.size → o' b = o b
  fresh : Owned o' w'
theorem Fr.refl {lo hi : Nat} {o : Own} {w : World} (h : Owned o w) : Fr lo hi o o w w := ⟨rfl, rfl, rfl, Nat.le_refl _, fun _ _ _ => rfl, fun _ _ => rfl, h⟩
theorem Fr.trans {lo hi : Nat} {o o1 o2 : Own} {w w1 w2 : World} (h : Fr lo hi o o1 w w1) (k : Fr lo hi o1 o2 w1 w2) : Fr lo hi o o2 w w2 :=
  ⟨k.os.trans h.os, k.tape.trans h.tape, k.output.trans h.output, Nat.le_trans h.size k.size,
    fun b hb hr => (k.block b (Nat.lt_of_lt_of_le hb h.size) (by rw [h.own b hb]; exact hr)).trans (h.block b hb hr),
    fun b hb => (k.own b (Nat.lt_of_lt_of_le hb h.size)).trans (h.own b hb), k.fresh⟩
theorem Fr.mono {lo hi lo' hi' : Nat} {o o' : Own} {w w' : World} (h : Fr lo hi o o' w w') (h1 : lo' ≤ lo) (h2 : hi ≤ hi') : Fr lo' hi' o o' w w' :=
  ⟨h.os, h.tape, h.output, h.size, fun b hb hr => h.block b hb (by omega), h.own, h.fresh⟩
theorem Fr.of_below {lo hi : Nat} {o : Own} {w w' : World} (h : Owned o w) (k : Below w.heap.size w w') : Fr lo hi o o w w' :=
  ⟨k.os, k.tape, k.output, k.size, fun b hb _ => k.block b hb, fun _ _ => rfl, fun b hb => h b (Nat.le_trans k.size hb)⟩
theorem Fr.drew {lo hi : Nat} {o o' : Own} {w w' : World} (h : Fr lo hi o o' w w') : Fr lo hi o o' w w'.drew := ⟨h.os, h.tape, h.output, h.size, h.block, h.own, h.fresh⟩
theorem Fr.drewN {lo hi : Nat} {o o' : Own} {w w' : World} (h : Fr lo hi o o' w w') (n : Nat) : Fr lo hi o o' w (w'.drewN n) := ⟨h.os, h.tape, h.output, h.size, h.block, h.own, h.fresh⟩
theorem Fr.drewN_trans {lo hi : Nat} {o o1 o2 : Own} {w w1 w2 : World} (h : Fr lo hi o o1 w w1) (n : Nat) (k : Fr lo hi o1 o2 (w1.drewN n) w2) : Fr lo hi o o2 w w2 := (h.drewN n).trans k
theorem Owned.drewN {o : Own} {w : World} (h : Owned o w) (n : Nat) : Owned o (w.drewN n) := h
theorem Fr.alloc {lo hi : Nat} {o o' : Own} {w w' : World} (h : Fr lo hi o o' w w') (x : Obj) : Fr lo hi o o' w (w'.alloc x) :=
  h.trans (Fr.of_below h.fresh ((Below.refl _ _).alloc (Nat.le_refl _) x))
theorem Fr.below {lo hi : Nat} {o o1 : Own} {w w1 w' : World} (h : Fr lo hi o o1 w w1) (k : Below w1.heap.size w1 w') : Fr lo hi o o1 w w' := h.trans (Fr.of_below h.fresh k)
/-- A new block, given to an owner. -/
theorem Fr.give {lo hi : Nat} {o o' : Own} {w w' : World} (h : Fr lo hi o o' w w') (x : Obj) (r : Nat) : Fr lo hi o (o'.give w'.heap.size r) w (w'.alloc x) :=
  h.trans ⟨rfl, rfl, rfl, by simp, fun b hb _ => Below.heap_alloc _ _ _ hb, fun b hb => by simp [Own.give, Nat.ne_of_lt hb],
    fun b hb => by simp at hb; simp only [Own.give]; rw [if_neg (by omega)]; exact h.fresh b (by omega)⟩
/-- A store into a block of one of the owners. -/
theorem Fr.setCell {lo hi : Nat} {o o' : Own} {w w' : World} (h : Fr lo hi o o' w w') (a : Addr) (v : Value) (ha : (lo ≤ o' a.block ∧ o' a.block < hi) ∨ w.heap.size ≤ a.block) : Fr lo hi o o' w (w'.setCell a v) := by
  refine ⟨h.os, h.tape, h.output, by simpa using h.size, fun b hb hr => ?_, h.own, fun b hb => h.fresh b (by simpa using hb)⟩
  rw [Below.heap_setCell _ _ _ _ (fun e => by subst e; have := h.own _ hb; omega)]
  exact h.block b hb hr
/-- Where nobody owned anything, nothing that was there has turned. -/
theorem Fr.to_below {lo hi : Nat} {_o' : Own} {w w' : World} (hlo : 0 < lo) (h : Fr lo hi (fun _ => 0) _o' w w') : Below w.heap.size w w' :=
  ⟨h.os, h.tape, h.output, h.size, fun b hb => h.block b hb (.inl hlo)⟩
theorem Owned.zero (w : World) : Owned (fun _ => 0) w := fun _ _ => rfl
theorem Owned.below {o : Own} {w w' : World} (h : Owned o w) (k : w.heap.size ≤ w'.heap.size) : Owned o w' := fun b hb => h b (Nat.le_trans k hb)

/-! ### a block that is known whole -/
def Blk (o : Own) (w : World) (r b : Nat) (x : Obj) : Prop := o b = r ∧ w.heap[b]? = some x
theorem Blk.lt {o : Own} {w : World} {r b : Nat} {x : Obj} (h : Blk o w r b x) : b < w.heap.size := lt_of_block h.2
theorem Blk.keep {lo hi : Nat} {o o' : Own} {w w' : World} {r b : Nat} {x : Obj} (h : Blk o w r b x) (k : Fr lo hi o o' w w') (hr : r < lo ∨ hi ≤ r) : Blk o' w' r b x :=
  ⟨(k.own b h.lt).trans h.1, (k.block b h.lt (by rw [h.1]; exact hr)).trans h.2⟩
theorem Blk.cell {o : Own} {w : World} {r b : Nat} {cs : Array Value} {t : TypeId} (h : Blk o w r b (.cells cs t (0, 0))) (i : Nat) : w.cell? ⟨b, i, none⟩ = cs[i]? := by simp [World.cell?, h.2]
theorem Blk.free {o : Own} {w : World} {r b : Nat} {cs : Array Value} {t : TypeId} (h : Blk o w r b (.cells cs t (0, 0))) (i : Nat) : w.frozen? ⟨b, i, none⟩ = false := by simp [World.frozen?, h.2]
theorem Blk.new {o : Own} {w : World} (x : Obj) (r : Nat) : Blk (o.give w.heap.size r) (w.alloc x) r w.heap.size x := ⟨by simp [Own.give], heap_alloc_new w x⟩
theorem heap_set {w : World} {b : Nat} {cs : Array Value} {t : TypeId} (h : w.heap[b]? = some (.cells cs t (0, 0))) (i : Nat) (v : Value) :
    (w.setCell ⟨b, i, none⟩ v).heap[b]? = some (.cells (cs.setIfInBounds i v) t (0, 0)) := by
  simp only [World.setCell, Array.getElem?_modify, if_true, h]
  rfl
theorem Blk.set {o : Own} {w : World} {r b : Nat} {cs : Array Value} {t : TypeId} (h : Blk o w r b (.cells cs t (0, 0))) (i : Nat) (v : Value) :
    Blk o (w.setCell ⟨b, i, none⟩ v) r b (.cells (cs.setIfInBounds i v) t (0, 0)) := ⟨h.1, heap_set h.2 i v⟩
theorem Blk.of_eq {o : Own} {w w' : World} {r b : Nat} {x : Obj} (h : Blk o w r b x) (e : w'.heap[b]? = w.heap[b]?) : Blk o w' r b x := ⟨h.1, e.trans h.2⟩

/-! ### maps with whole numbers as keys -/
def keyNum : Value → Int | .int _ n => n | _ => 0
def mfind : List MapEntry → Int → Nat → Option (Nat × Value)
  | [], _, _ => none
  | e :: es, k, i => if keyNum e.key = k then some (i, e.val) else mfind es k (i + 1)
def mget (l : List MapEntry) (k : Int) : Option Value := (mfind l k 0).map (·.2)
/-- The keys of this program's maps are places of words: below this. -/
abbrev KB : Int := 1048576
structure MapOk (es : Array MapEntry) (clock : Nat) : Prop where
  stamped : MapKept.Stamped es clock
  keys : ∀ x ∈ es.toList, ∃ k : Int, x.key = .int .i64 k ∧ 0 ≤ k ∧ k < KB
/-- Block b is a map that has just what f says. -/
def MapIs (w : World) (b : Nat) (f : Int → Option Value) : Prop := ∃ es clock, w.heap[b]? = some (.map es clock) ∧ MapOk es clock ∧ ∀ k, mget es.toList k = f k
theorem MapIs.of_eq {w w' : World} {b : Nat} {f : Int → Option Value} (h : MapIs w b f) (e : w'.heap[b]? = w.heap[b]?) : MapIs w' b f :=
  let ⟨es, c, h1, h2⟩ := h; ⟨es, c, e.trans h1, h2⟩
theorem MapIs.lt {w : World} {b : Nat} {f : Int → Option Value} (h : MapIs w b f) : b < w.heap.size := let ⟨_, _, h1, _⟩ := h; lt_of_block h1
theorem MapIs.congr {w : World} {b : Nat} {f g : Int → Option Value} (h : MapIs w b f) (e : ∀ k, f k = g k) : MapIs w b g :=
  let ⟨es, c, h1, h2, h3⟩ := h; ⟨es, c, h1, h2, fun k => (h3 k).trans (e k)⟩
theorem MapIs.new (w : World) : MapIs (w.alloc (.map #[] 0)) w.heap.size (fun _ => none) :=
  ⟨#[], 0, heap_alloc_new w _, ⟨MapKept.stamped_empty 0, by simp⟩, fun _ => rfl⟩
/-- .. owned. -/
def MapBlk (o : Own) (w : World) (r b : Nat) (f : Int → Option Value) : Prop := o b = r ∧ MapIs w b f
theorem MapBlk.keep {lo hi : Nat} {o o' : Own} {w w' : World} {r b : Nat} {f : Int → Option Value} (h : MapBlk o w r b f) (k : Fr lo hi o o' w w') (hr : r < lo ∨ hi ≤ r) : MapBlk o' w' r b f :=
  ⟨(k.own b h.2.lt).trans h.1, h.2.of_eq (k.block b h.2.lt (by rw [h.1]; exact hr))⟩
theorem MapBlk.congr {o : Own} {w : World} {r b : Nat} {f g : Int → Option Value} (h : MapBlk o w r b f) (e : ∀ k, f k = g k) : MapBlk o w r b g := ⟨h.1, h.2.congr e⟩
theorem MapBlk.new {o : Own} {w : World} (r : Nat) : MapBlk (o.give w.heap.size r) (w.alloc (.map #[] 0)) r w.heap.size (fun _ => none) := ⟨by simp [Own.give], MapIs.new w⟩

theorem mfind_none {l : List MapEntry} {k : Int} : ∀ {i}, mfind l k i = none ↔ ∀ x ∈ l, keyNum x.key ≠ k := by
  induction l with
  | nil => simp [mfind]
  | cons e es ih =>
    intro i
    by_cases h : keyNum e.key = k <;> simp [mfind, h, ih]
theorem mfind_some {l : List MapEntry} {k : Int} : ∀ {i j v}, mfind l k i = some (j, v) → ∃ n e, j = i + n ∧ l[n]? = some e ∧ keyNum e.key = k ∧ e.val = v ∧ ∀ m, m < n → ∀ x, l[m]? = some x → keyNum x.key ≠ k := by
  induction l with
  | nil => intro i j v h; simp [mfind] at h
  | cons e es ih =>
    intro i j v h
    unfold mfind at h
    split at h
    · rename_i hk
      simp only [Option.some.injEq, Prod.mk.injEq] at h
      obtain ⟨rfl, rfl⟩ := h
      exact ⟨0, e, rfl, rfl, hk, rfl, fun m hm => absurd hm (Nat.not_lt_zero _)⟩
    · rename_i hk
      obtain ⟨n, x, hj, hx, h1, h2, h3⟩ := ih h
      refine ⟨n + 1, x, by omega, by simpa using hx, h1, h2, fun m hm y hy => ?_⟩
      cases m with
      | zero => simp at hy; subst hy; exact hk
      | succ m => exact h3 m (by omega) y (by simpa using hy)
theorem findNow_int {l : List MapEntry} {q : IntKind} (h : ∀ x ∈ l, ∃ k : Int, x.key = .int .i64 k) (k : Int) : ∀ i, Instr.findNow (.int q) (.int .i64 k) l i = some (mfind l k i) := by
  induction l with
  | nil => intro i; rfl
  | cons e es ih =>
    intro i
    obtain ⟨k', hk'⟩ := h e (by simp)
    have ih' := ih (fun x hx => h x (by simp [hx]))
    unfold Instr.findNow mfind
    rw [hk']
    by_cases hkk : k = k'
    · subst hkk; simp [Instr.sameNow, keyNum]
    · have h1 : (k == k') = false := by simpa using hkk
      have h2 : ¬ k' = k := fun e => hkk e.symm
      simp [Instr.sameNow, keyNum, h1, h2, ih']

section
variable {P : Program} {t kt e : TypeId} {z : Value} {w : World} {b : Nat} {f : Int → Option Value}
theorem run_checkKey_succ (n : Nat) (emp : Bool) (hk : P.underlying kt = some (.int .i64)) (k : Int) (w : World) : (Instr.checkKey emp (n + 1) kt (.int .i64 k)).run P w = .ok () w := by
  simp [Instr.checkKey, run_underlying hk]
theorem run_checkKey_int (emp : Bool) (hk : P.underlying kt = some (.int .i64)) (k : Int) (w : World) : (Instr.checkKey emp 10000 kt (.int .i64 k)).run P w = .ok () w := run_checkKey_succ 9999 emp hk k w
theorem run_findKey_int (hk : P.underlying kt = some (.int .i64)) {l : List MapEntry} (h : ∀ x ∈ l, ∃ k : Int, x.key = .int .i64 k) (k : Int) (w : World) : (Instr.findKey kt (.int .i64 k) l).run P w = .ok (mfind l k 0) w := by
  simp [Instr.findKey, run_underlying hk, findNow_int h]
/-- 'm[k]', with or without 'ok'. -/
theorem MapIs.lookup (h : MapIs w b f) (ht : P.underlying t = some (.map kt e)) (hk : P.underlying kt = some (.int .i64)) (hz : ∀ w, (zeroValue e).run P w = .ok z w) (c : Bool) (k : Int) :
    (Instr.lookup t (.map (some b)) (.int .i64 k) c).run P w = .ok (if c then .tuple #[(f k).getD z, .bool (f k).isSome] else (f k).getD z) w := by
  obtain ⟨es, clock, hb, ok, hf⟩ := h
  have hg := hf k
  simp only [Instr.lookup, Sem.run_bind, run_underlying ht, Result.andThen_ok, MapKept.run_getObj_map hb, Sem.run_pure, run_checkKey_int _ hk, run_findKey_int hk (fun x hx => let ⟨k, hk, _⟩ := ok.keys x hx; ⟨k, hk⟩)]
  unfold mget at hg
  cases hm : mfind es.toList k 0 with
  | none => rw [hm] at hg; simp only [Option.map_none] at hg; simp [← hg, hz]
  | some p => rw [hm] at hg; simp only [Option.map_some] at hg; simp [← hg]
theorem sameBits_int (k : Int) : Instr.sameBits 10000 (.int .i64 k) (.int .i64 k) = true := by
  unfold Instr.sameBits; simp
theorem mfind_modify {l : List MapEntry} {k : Int} {n : Nat} {e : MapEntry} (hn : l[n]? = some e) (hk : keyNum e.key = k) (hfirst : ∀ m, m < n → ∀ x, l[m]? = some x → keyNum x.key ≠ k) (v : Value) :
    ∀ (j : Int) (i : Nat), (mfind (l.modify n fun e => { e with key := .int .i64 k, val := v }) j i).map (·.2) = if j = k then some v else (mfind l j i).map (·.2) := by
  induction l generalizing n with
  | nil => simp at hn
  | cons x xs ih =>
    intro j i
    cases n with
    | zero =>
      simp at hn; subst hn
      by_cases hj : j = k
      · subst hj; simp [mfind, keyNum]
      · have h1 : ¬ k = j := fun h => hj h.symm
        have h2 : ¬ keyNum x.key = j := fun h => hj (h.symm.trans hk)
        have h3 : ¬ keyNum (.int .i64 k) = j := h1
        simp [mfind, h2, h3, hj]
    | succ n =>
      have hx := hfirst 0 (by omega) x rfl
      have ih' := ih (n := n) (by simpa using hn) (fun m hm y hy => hfirst (m + 1) (by omega) y (by simpa using hy)) j (i + 1)
      by_cases hxj : keyNum x.key = j
      · have : ¬ j = k := fun h => hx (hxj.trans h)
        simp [mfind, hxj, this]
      · simp [mfind, hxj, ih']
theorem mfind_append {l : List MapEntry} {e : MapEntry} (j : Int) : ∀ i, (mfind (l ++ [e]) j i).map (·.2) = ((mfind l j i).map (·.2)).or (if keyNum e.key = j then some e.val else none) := by
  induction l with
  | nil => intro i; by_cases h : keyNum e.key = j <;> simp [mfind, h]
  | cons x xs ih =>
    intro i
    by_cases h : keyNum x.key = j <;> simp [mfind, h, ih]
theorem mget_none_notin {l : List MapEntry} {k : Int} (h : mfind l k 0 = none) : (.int .i64 k : Value) ∉ l.map (·.key) := by
  intro hm
  obtain ⟨x, hx, he⟩ := List.mem_map.1 hm
  exact mfind_none.1 h x hx (by rw [he]; rfl)
theorem key_of_num {x : MapEntry} {k : Int} (h : ∃ k : Int, x.key = .int .i64 k ∧ 0 ≤ k ∧ k < KB) (hk : keyNum x.key = k) : x.key = .int .i64 k := by
  obtain ⟨k', h1, _⟩ := h
  rw [h1] at hk ⊢
  simp only [keyNum] at hk
  rw [hk]
/-- 'm[k] = v'. -/
theorem MapIs.update (h : MapIs w b f) (ht : P.underlying t = some (.map kt e)) (hk : P.underlying kt = some (.int .i64)) (k : Int) (h0 : 0 ≤ k) (h1 : k < KB) (v : Value) :
    ∃ x, (Instr.mapUpdate t (.map (some b)) (.int .i64 k) v).run P w = .ok () { w with heap := w.heap.setIfInBounds b x } ∧ MapIs { w with heap := w.heap.setIfInBounds b x } b (fun j => if j = k then some v else f j) := by
  obtain ⟨es, clock, hb, ok, hf⟩ := h
  have hlt := lt_of_block hb
  have hset : ∀ x, ({ w with heap := w.heap.setIfInBounds b x } : World).heap[b]? = some x := fun x => by
    simp [hlt]
  have hkeys : ∀ x ∈ es.toList, ∃ k : Int, x.key = .int .i64 k := fun x hx => let ⟨k, hk, _⟩ := ok.keys x hx; ⟨k, hk⟩
  have hso : ∀ x, (setObj b x).run P w = .ok () { w with heap := w.heap.setIfInBounds b x } := fun x => by simp [setObj, Sem.run, hb]
  cases hm : mfind es.toList k 0 with
  | none =>
    refine ⟨.map (es.push { key := .int .i64 k, val := v, born := clock }) (clock + 1), ?_, _, _, hset _, ⟨?_, ?_⟩, ?_⟩
    · simp only [Instr.mapUpdate, Sem.run_bind, run_underlying ht, Result.andThen_ok, MapKept.run_getObj_map hb, run_checkKey_int _ hk, run_findKey_int hk hkeys, hm, hso]
    · obtain ⟨s1, s2, s3⟩ := ok.stamped
      refine ⟨fun x hx => ?_, ?_, ?_⟩
      · simp only [Array.toList_push, List.mem_append, List.mem_singleton] at hx
        rcases hx with hx | rfl
        · exact Nat.lt_succ_of_lt (s1 x hx)
        · exact Nat.lt_succ_self _
      · simp only [Array.toList_push, List.map_append, List.map_cons, List.map_nil]
        refine List.nodup_append.2 ⟨s2, by simp, fun x hx y hy hxy => ?_⟩
        simp only [List.mem_singleton] at hy
        subst hy; subst hxy
        obtain ⟨z, hz, hzz⟩ := List.mem_map.1 hx
        exact Nat.lt_irrefl _ (hzz ▸ s1 z hz)
      · simp only [Array.toList_push, List.map_append, List.map_cons, List.map_nil]
        refine List.nodup_append.2 ⟨s3, by simp, fun x hx y hy hxy => ?_⟩
        simp only [List.mem_singleton] at hy
        subst hy; subst hxy
        exact mget_none_notin hm hx
    · intro x hx
      simp only [Array.toList_push, List.mem_append, List.mem_singleton] at hx
      rcases hx with hx | rfl
      · exact ok.keys x hx
      · exact ⟨k, rfl, h0, h1⟩
    · intro j
      have hj := hf j
      unfold mget at hj ⊢
      rw [Array.toList_push, mfind_append, hj]
      by_cases hjk : j = k
      · subst hjk
        have : f j = none := by rw [← hf j]; unfold mget; rw [hm]; rfl
        simp [this, keyNum]
      · have : ¬ k = j := fun h => hjk h.symm
        simp [keyNum, this, hjk]
  | some p =>
    obtain ⟨n, v0⟩ := p
    obtain ⟨n', e0, hn, he0, hk0, hv0, hfirst⟩ := mfind_some hm
    have hn' : n = n' := by omega
    subst hn'
    have hekey := key_of_num (ok.keys e0 (List.mem_of_getElem? he0)) hk0
    have hes : es[n]? = some e0 := by simpa using he0
    refine ⟨.map (es.modify n fun e => { e with key := .int .i64 k, val := v }) clock, ?_, _, _, hset _, ⟨?_, ?_⟩, ?_⟩
    · simp only [Instr.mapUpdate, Sem.run_bind, run_underlying ht, Result.andThen_ok, MapKept.run_getObj_map hb, run_checkKey_int _ hk, run_findKey_int hk hkeys, hm, hso, Instr.keyThatStays, hes, Option.map_some, Option.getD_some, hekey, sameBits_int, if_true, Sem.run_pure]
    · have hmap : ∀ {β : Type} (g : MapEntry → β), (g { e0 with key := .int .i64 k, val := v } = g e0) → ((es.modify n fun e => { e with key := .int .i64 k, val := v }).toList.map g) = es.toList.map g := by
        intro β g hg
        apply List.ext_getElem?
        intro m
        simp only [List.getElem?_map, Array.getElem?_toList, Array.getElem?_modify]
        by_cases hmn : n = m
        · subst hmn; simp [hes, hg]
        · simp [hmn]
      obtain ⟨s1, s2, s3⟩ := ok.stamped
      refine ⟨fun x hx => ?_, ?_, ?_⟩
      · have : x.born ∈ (es.modify n fun e => { e with key := .int .i64 k, val := v }).toList.map (·.born) := List.mem_map.2 ⟨x, hx, rfl⟩
        rw [hmap (·.born) rfl] at this
        obtain ⟨y, hy, he⟩ := List.mem_map.1 this
        rw [← he]; exact s1 y hy
      · rw [hmap (·.born) rfl]; exact s2
      · rw [hmap (·.key) hekey.symm]; exact s3
    · intro x hx
      have hx' := Array.mem_toList_iff.1 hx
      obtain ⟨m, hm1⟩ := Array.mem_iff_getElem?.1 hx'
      rw [Array.getElem?_modify] at hm1
      split at hm1
      · simp only [Option.map_eq_some_iff] at hm1
        obtain ⟨y, _, rfl⟩ := hm1
        exact ⟨k, rfl, h0, h1⟩
      · exact ok.keys x (Array.mem_toList_iff.2 (Array.mem_iff_getElem?.2 ⟨m, hm1⟩))
    · intro j
      have hj := hf j
      unfold mget at hj ⊢
      rw [Array.toList_modify, mfind_modify he0 hk0 hfirst, hj]
end
end Go.Proofs.YtlpklloagaccoaaGreat
namespace Go.Proofs.YtlpklloagaccoaaGreat
open Go.RowKit

section
variable {P : Program} {t kt e : TypeId} {z : Value} {w : World} {b : Nat} {f : Int → Option Value}
theorem mfind_erase {l : List MapEntry} {k : Int} (hnd : (l.map (·.key)).Nodup) (hkeys : ∀ x ∈ l, ∃ k : Int, x.key = .int .i64 k ∧ 0 ≤ k ∧ k < KB) {n : Nat} {e : MapEntry} (hn : l[n]? = some e) (hk : keyNum e.key = k) :
    ∀ (j : Int) (i : Nat), (mfind (l.eraseIdx n) j i).map (·.2) = if j = k then none else (mfind l j i).map (·.2) := by
  induction l generalizing n with
  | nil => simp at hn
  | cons x xs ih =>
    intro j i
    simp only [List.map_cons, List.nodup_cons] at hnd
    cases n with
    | zero =>
      simp at hn; subst hn
      have hxk := key_of_num (hkeys x (by simp)) hk
      by_cases hj : j = k
      · subst hj
        have : mfind xs j i = none := mfind_none.2 fun y hy hyj => by
          have h1 := key_of_num (hkeys y (by simp [hy])) hyj
          exact hnd.1 (List.mem_map.2 ⟨y, hy, by rw [h1, hxk]⟩)
        simp [this]
      · have h2 : ¬ keyNum x.key = j := fun h => hj (h.symm.trans hk)
        have hs : ∀ (l : List MapEntry) (a c : Nat), (mfind l j a).map (·.2) = (mfind l j c).map (·.2) := fun l => by
          induction l with
          | nil => intros; rfl
          | cons y ys ihy => intro a c; unfold mfind; split <;> simp [ihy (a + 1) (c + 1)]
        simp [mfind, h2, hj, hs xs i (i + 1)]
    | succ n =>
      have ih' := ih hnd.2 (fun y hy => hkeys y (by simp [hy])) (n := n) (by simpa using hn) j (i + 1)
      have hmem : e ∈ xs := List.mem_of_getElem? (by simpa using hn)
      by_cases hxj : keyNum x.key = j
      · have hjk : ¬ j = k := fun h => by
          have h1 := key_of_num (hkeys x (by simp)) (hxj.trans h)
          have h2 := key_of_num (hkeys e (by simp [hmem])) hk
          exact hnd.1 (List.mem_map.2 ⟨e, hmem, by rw [h1, h2]⟩)
        simp [mfind, hxj, hjk]
      · simp [mfind, hxj, ih']
/-- 'delete(m, k)'. -/
theorem MapIs.delete (h : MapIs w b f) (ht : P.underlying t = some (.map kt e)) (hk : P.underlying kt = some (.int .i64)) (ty : TypeId) (k : Int) :
    ∃ x, (Builtin.delete_ #[t, kt] ty #[.map (some b), .int .i64 k]).run P w = .ok (.tuple #[]) { w with heap := w.heap.setIfInBounds b x } ∧ MapIs { w with heap := w.heap.setIfInBounds b x } b (fun j => if j = k then none else f j) := by
  obtain ⟨es, clock, hb, ok, hf⟩ := h
  have hlt := lt_of_block hb
  have hset : ∀ x, ({ w with heap := w.heap.setIfInBounds b x } : World).heap[b]? = some x := fun x => by
    simp [hlt]
  have hkeys : ∀ x ∈ es.toList, ∃ k : Int, x.key = .int .i64 k := fun x hx => let ⟨k, hk, _⟩ := ok.keys x hx; ⟨k, hk⟩
  have hso : ∀ x, (setObj b x).run P w = .ok () { w with heap := w.heap.setIfInBounds b x } := fun x => by simp [setObj, Sem.run, hb]
  cases hm : mfind es.toList k 0 with
  | none =>
    refine ⟨.map es clock, ?_, es, clock, hset _, ok, fun j => ?_⟩
    · simp only [Builtin.delete_, List.getElem?_toArray, List.getElem?_cons_zero, List.getElem?_cons_succ, Sem.run_bind, run_underlying ht, Result.andThen_ok, MapKept.run_getObj_map hb, run_checkKey_int _ hk, run_findKey_int hk hkeys, hm, hso, Sem.run_pure]
    · rw [hf j]
      show f j = if j = k then none else f j
      split
      · rename_i hj; subst hj
        rw [← hf j]; unfold mget; rw [hm]; rfl
      · rfl
  | some p =>
    obtain ⟨n, v0⟩ := p
    obtain ⟨n', e0, hn, he0, hk0, hv0, hfirst⟩ := mfind_some hm
    have hn' : n = n' := by omega
    subst hn'
    refine ⟨.map (es.eraseIdxIfInBounds n) clock, ?_, _, _, hset _, ⟨?_, ?_⟩, fun j => ?_⟩
    · simp only [Builtin.delete_, List.getElem?_toArray, List.getElem?_cons_zero, List.getElem?_cons_succ, Sem.run_bind, run_underlying ht, Result.andThen_ok, MapKept.run_getObj_map hb, run_checkKey_int _ hk, run_findKey_int hk hkeys, hm, hso, Sem.run_pure]
    all_goals
      have hns : n < es.size := by
        have := (List.getElem?_eq_some_iff.1 he0).1; simpa using this
      have hl : (es.eraseIdxIfInBounds n).toList = es.toList.eraseIdx n := by
        unfold Array.eraseIdxIfInBounds; rw [dif_pos hns]; simp
    · obtain ⟨s1, s2, s3⟩ := ok.stamped
      refine ⟨fun x hx => s1 x ?_, ?_, ?_⟩
      · rw [hl] at hx; exact List.mem_of_mem_eraseIdx hx
      · rw [hl]; exact s2.sublist ((List.eraseIdx_sublist _ _).map _)
      · rw [hl]; exact s3.sublist ((List.eraseIdx_sublist _ _).map _)
    · intro x hx
      rw [hl] at hx
      exact ok.keys x (List.mem_of_mem_eraseIdx hx)
    · have hj := hf j
      unfold mget at hj ⊢
      rw [hl, mfind_erase ok.stamped.2.2 ok.keys he0 hk0, hj]

theorem heap_setObj_other {w : World} {b k : Nat} (x : Obj) (h : k ≠ b) : ({ w with heap := w.heap.setIfInBounds b x } : World).heap[k]? = w.heap[k]? := by
  simp [Array.getElem?_setIfInBounds_ne (Ne.symm h)]
/-- What a write to a map's block leaves: all else is as it was. -/
structure MapTurn (w w' : World) (b : Nat) : Prop where
  os : w'.os = w.os
  tape : w'.tape = w.tape
  output : w'.output = w.output
  size : w'.heap.size = w.heap.size
  block : ∀ k, k ≠ b → w'.heap[k]? = w.heap[k]?
theorem MapTurn.of (w : World) (b : Nat) (x : Obj) : MapTurn w { w with heap := w.heap.setIfInBounds b x } b :=
  ⟨rfl, rfl, rfl, by simp, fun _ hk => heap_setObj_other x hk⟩
theorem MapTurn.fr {lo hi : Nat} {o : Own} {w w' : World} {b : Nat} (h : MapTurn w w' b) (ho : Owned o w) (hb : lo ≤ o b ∧ o b < hi) : Fr lo hi o o w w' :=
  ⟨h.os, h.tape, h.output, Nat.le_of_eq h.size.symm, fun k hk hr => h.block k (fun e => by subst e; omega), fun _ _ => rfl, fun k hk => ho k (by rw [← h.size]; exact hk)⟩
theorem MapTurn.cell {w w' : World} {b : Nat} (h : MapTurn w w' b) {a : Addr} (ha : a.block ≠ b) : w'.cell? a = w.cell? a := World.cell?_of_block (h.block a.block ha)
theorem MapTurn.frozen {w w' : World} {b : Nat} (h : MapTurn w w' b) {a : Addr} (ha : a.block ≠ b) : w'.frozen? a = w.frozen? a := World.frozen?_of_block (h.block a.block ha)

/-- 'm[k] = v' at the operation. -/
theorem wpList_mapUpdate_is {ops : Array Oper} {rest : List Oper} {o : Oper} {a : Act} {Q : Exit → Act → World → Prop} (w : World) (hg : o.guard = none) (m x v : Operand) (t : TypeId) (hop : o.op = Op.mapUpdate t m x v)
    (kt e : TypeId) (ht : P.underlying t = some (.map kt e)) (hk : P.underlying kt = some (.int .i64)) (b : Nat) (f : Int → Option Value) (h : MapIs w b f) (hm : a.eval m = .map (some b)) (k : Int) (hx : a.eval x = .int .i64 k) (h0 : 0 ≤ k) (h1 : k < KB)
    (val : Value) (hv : a.eval v = val) (hK : ∀ w', MapIs w' b (fun j => if j = k then some val else f j) → MapTurn w w' b → wpList P ops Q rest (a.put o.dst undef) w') : wpList P ops Q (o :: rest) a w := by
  refine wpList_plain hg fun K' hK' => ?_
  obtain ⟨y, hrun, hm'⟩ := h.update ht hk k h0 h1 val
  unfold Oper.wp
  simp only [execOp, hop, hm, hx, hv, Sem.run_bind, hrun, Result.andThen_ok, Sem.run_pure, Oper.upon_skip]
  exact hK' _ _ (hK _ hm' (MapTurn.of w b y))
/-- 'm[k]' at the operation. -/
theorem wpList_lookup_is {ops : Array Oper} {rest : List Oper} {o : Oper} {a : Act} {Q : Exit → Act → World → Prop} (w : World) (hg : o.guard = none) (m x : Operand) (t : TypeId) (c : Bool) (hop : o.op = Op.lookup t m x c)
    (kt e : TypeId) (ht : P.underlying t = some (.map kt e)) (hk : P.underlying kt = some (.int .i64)) (z : Value) (hz : ∀ w, (zeroValue e).run P w = .ok z w) (b : Nat) (f : Int → Option Value) (h : MapIs w b f) (hm : a.eval m = .map (some b)) (k : Int) (hx : a.eval x = .int .i64 k)
    (hK : wpList P ops Q rest (a.put o.dst (if c then .tuple #[(f k).getD z, .bool (f k).isSome] else (f k).getD z)) w) : wpList P ops Q (o :: rest) a w := by
  refine wpList_plain hg fun K' hK' => ?_
  have hrun := h.lookup ht hk hz c k
  unfold Oper.wp
  simp only [execOp, hop, hm, hx, Sem.run_bind, hrun, Result.andThen_ok, Sem.run_pure, Oper.upon_value]
  exact hK' _ _ hK
/-- 'delete(m, k)' at the operation. -/
theorem wpList_delete_is {ops : Array Oper} {rest : List Oper} {o : Oper} {a : Act} {Q : Exit → Act → World → Prop} (w : World) (hg : o.guard = none) (m x : Operand) (t kt : TypeId) (hop : o.op = .call { callee := .builtin .delete, args := #[m, x], argTypes := #[t, kt] })
    (e : TypeId) (ht : P.underlying t = some (.map kt e)) (hk : P.underlying kt = some (.int .i64)) (b : Nat) (f : Int → Option Value) (h : MapIs w b f) (hm : a.eval m = .map (some b)) (k : Int) (hx : a.eval x = .int .i64 k)
    (hK : ∀ w', MapIs w' b (fun j => if j = k then none else f j) → MapTurn w w' b → wpList P ops Q rest (a.put o.dst (.tuple #[])) w') : wpList P ops Q (o :: rest) a w := by
  refine wpList_plain hg fun K' hK' => ?_
  obtain ⟨y, hrun, hm'⟩ := h.delete ht hk o.type k
  unfold Oper.wp execOp
  simp only [hop, resolve, invoke, builtin, Sem.run_bind, Sem.run_pure, Result.andThen_ok, List.map_toArray, List.map_cons, List.map_nil, hm, hx, hrun, Oper.upon_value]
  exact hK' _ _ (hK _ hm' (MapTurn.of w b y))
end
end Go.Proofs.YtlpklloagaccoaaGreat
