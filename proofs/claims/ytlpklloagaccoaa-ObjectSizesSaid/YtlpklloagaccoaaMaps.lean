/- Maps with whole numbers as keys: deleting, and the laws of their operations for the walk. No condition. -/
import Derived.Test.YtlpklloagaccoaaBase
namespace Go.Proofs.Ytlpklloagaccoaa
open Go.RowKit

section
variable {P : Program} {t kt e : TypeId} {z : Value} {w : World} {b : Nat} {f : Int → Option Value}
theorem mfind_erase {l : List MapEntry} {k : Int} (hnd : (l.map (·.key)).Nodup) (hkeys : ∀ x ∈ l, ∃ k : Int, x.key = .int .i64 k ∧ 0 ≤ k ∧ k < KB) {n : Nat} {e : MapEntry} (hn : l[n]? = some e) (hk : keyNum e.key = k) :
    ∀ (j : Int) (i : Nat), (mfind (l.eraseIdx n) j i).map (·.2) = if j = k then none else (mfind l j i).map (·.2) := by
  induction l generalizing n with
  | nil => simp at hn
  | cons x xs ih =>
    intro j i
    simp only [List.map_cons, List.nodup_cons] at hnd
    cases n with
    | zero =>
      simp at hn; subst hn
      have hxk := key_of_num (hkeys x (by simp)) hk
      by_cases hj : j = k
      · subst hj
        have : mfind xs j i = none := mfind_none.2 fun y hy hyj => by
          have h1 := key_of_num (hkeys y (by simp [hy])) hyj
          exact hnd.1 (List.mem_map.2 ⟨y, hy, by rw [h1, hxk]⟩)
        simp [this]
      · have h2 : ¬ keyNum x.key = j := fun h => hj (h.symm.trans hk)
        have hs : ∀ (l : List MapEntry) (a c : Nat), (mfind l j a).map (·.2) = (mfind l j c).map (·.2) := fun l => by
          induction l with
          | nil => intros; rfl
          | cons y ys ihy => intro a c; unfold mfind; split <;> simp [ihy (a + 1) (c + 1)]
        simp [mfind, h2, hj, hs xs i (i + 1)]
    | succ n =>
      have ih' := ih hnd.2 (fun y hy => hkeys y (by simp [hy])) (n := n) (by simpa using hn) j (i + 1)
      have hmem : e ∈ xs := List.mem_of_getElem? (by simpa using hn)
      by_cases hxj : keyNum x.key = j
      · have hjk : ¬ j = k := fun h => by
          have h1 := key_of_num (hkeys x (by simp)) (hxj.trans h)
          have h2 := key_of_num (hkeys e (by simp [hmem])) hk
          exact hnd.1 (List.mem_map.2 ⟨e, hmem, by rw [h1, h2]⟩)
        simp [mfind, hxj, hjk]
      · simp [mfind, hxj, ih']
/-- 'delete(m, k)'. -/
theorem MapIs.delete (h : MapIs w b f) (ht : P.underlying t = some (.map kt e)) (hk : P.underlying kt = some (.int .i64)) (ty : TypeId) (k : Int) :
    ∃ x, (Builtin.delete_ #[t, kt] ty #[.map (some b), .int .i64 k]).run P w = .ok (.tuple #[]) { w with heap := w.heap.setIfInBounds b x } ∧ MapIs { w with heap := w.heap.setIfInBounds b x } b (fun j => if j = k then none else f j) := by
  obtain ⟨es, clock, hb, ok, hf⟩ := h
  have hlt := lt_of_block hb
  have hset : ∀ x, ({ w with heap := w.heap.setIfInBounds b x } : World).heap[b]? = some x := fun x => by
    simp [hlt]
  have hkeys : ∀ x ∈ es.toList, ∃ k : Int, x.key = .int .i64 k := fun x hx => let ⟨k, hk, _⟩ := ok.keys x hx; ⟨k, hk⟩
  have hso : ∀ x, (setObj b x).run P w = .ok () { w with heap := w.heap.setIfInBounds b x } := fun x => by simp [setObj, Sem.run, hb]
  cases hm : mfind es.toList k 0 with
  | none =>
    refine ⟨.map es clock, ?_, es, clock, hset _, ok, fun j => ?_⟩
    · simp only [Builtin.delete_, List.getElem?_toArray, List.getElem?_cons_zero, List.getElem?_cons_succ, Sem.run_bind, run_underlying ht, Result.andThen_ok, MapKept.run_getObj_map hb, run_checkKey_int _ hk, run_findKey_int hk hkeys, hm, hso, Sem.run_pure]
    · rw [hf j]
      show f j = if j = k then none else f j
      split
      · rename_i hj; subst hj
        rw [← hf j]; unfold mget; rw [hm]; rfl
      · rfl
  | some p =>
    obtain ⟨n, v0⟩ := p
    obtain ⟨n', e0, hn, he0, hk0, hv0, hfirst⟩ := mfind_some hm
    have hn' : n = n' := by omega
    subst hn'
    refine ⟨.map (es.eraseIdxIfInBounds n) clock, ?_, _, _, hset _, ⟨?_, ?_⟩, fun j => ?_⟩
    · simp only [Builtin.delete_, List.getElem?_toArray, List.getElem?_cons_zero, List.getElem?_cons_succ, Sem.run_bind, run_underlying ht, Result.andThen_ok, MapKept.run_getObj_map hb, run_checkKey_int _ hk, run_findKey_int hk hkeys, hm, hso, Sem.run_pure]
    all_goals
      have hns : n < es.size := by
        have := (List.getElem?_eq_some_iff.1 he0).1; simpa using this
      have hl : (es.eraseIdxIfInBounds n).toList = es.toList.eraseIdx n := by
        unfold Array.eraseIdxIfInBounds; rw [dif_pos hns]; simp
    · obtain ⟨s1, s2, s3⟩ := ok.stamped
      refine ⟨fun x hx => s1 x ?_, ?_, ?_⟩
      · rw [hl] at hx; exact List.mem_of_mem_eraseIdx hx
      · rw [hl]; exact s2.sublist ((List.eraseIdx_sublist _ _).map _)
      · rw [hl]; exact s3.sublist ((List.eraseIdx_sublist _ _).map _)
    · intro x hx
      rw [hl] at hx
      exact ok.keys x (List.mem_of_mem_eraseIdx hx)
    · have hj := hf j
      unfold mget at hj ⊢
      rw [hl, mfind_erase ok.stamped.2.2 ok.keys he0 hk0, hj]

theorem heap_setObj_other {w : World} {b k : Nat} (x : Obj) (h : k ≠ b) : ({ w with heap := w.heap.setIfInBounds b x } : World).heap[k]? = w.heap[k]? := by
  simp [Array.getElem?_setIfInBounds_ne (Ne.symm h)]
/-- What a write to a map's block leaves: all else is as it was. -/
structure MapTurn (w w' : World) (b : Nat) : Prop where
  os : w'.os = w.os
  tape : w'.tape = w.tape
  output : w'.output = w.output
  size : w'.heap.size = w.heap.size
  block : ∀ k, k ≠ b → w'.heap[k]? = w.heap[k]?
theorem MapTurn.of (w : World) (b : Nat) (x : Obj) : MapTurn w { w with heap := w.heap.setIfInBounds b x } b :=
  ⟨rfl, rfl, rfl, by simp, fun _ hk => heap_setObj_other x hk⟩
theorem MapTurn.fr {lo hi : Nat} {o : Own} {w w' : World} {b : Nat} (h : MapTurn w w' b) (ho : Owned o w) (hb : lo ≤ o b ∧ o b < hi) : Fr lo hi o o w w' :=
  ⟨h.os, h.tape, h.output, Nat.le_of_eq h.size.symm, fun k hk hr => h.block k (fun e => by subst e; omega), fun _ _ => rfl, fun k hk => ho k (by rw [← h.size]; exact hk)⟩
theorem MapTurn.cell {w w' : World} {b : Nat} (h : MapTurn w w' b) {a : Addr} (ha : a.block ≠ b) : w'.cell? a = w.cell? a := World.cell?_of_block (h.block a.block ha)
theorem MapTurn.frozen {w w' : World} {b : Nat} (h : MapTurn w w' b) {a : Addr} (ha : a.block ≠ b) : w'.frozen? a = w.frozen? a := World.frozen?_of_block (h.block a.block ha)

/-- 'm[k] = v' at the operation. -/
theorem wpList_mapUpdate_is {ops : Array Oper} {rest : List Oper} {o : Oper} {a : Act} {Q : Exit → Act → World → Prop} (w : World) (hg : o.guard = none) (m x v : Operand) (t : TypeId) (hop : o.op = Op.mapUpdate t m x v)
    (kt e : TypeId) (ht : P.underlying t = some (.map kt e)) (hk : P.underlying kt = some (.int .i64)) (b : Nat) (f : Int → Option Value) (h : MapIs w b f) (hm : a.eval m = .map (some b)) (k : Int) (hx : a.eval x = .int .i64 k) (h0 : 0 ≤ k) (h1 : k < KB)
    (val : Value) (hv : a.eval v = val) (hK : ∀ w', MapIs w' b (fun j => if j = k then some val else f j) → MapTurn w w' b → wpList P ops Q rest (a.put o.dst undef) w') : wpList P ops Q (o :: rest) a w := by
  refine wpList_plain hg fun K' hK' => ?_
  obtain ⟨y, hrun, hm'⟩ := h.update ht hk k h0 h1 val
  unfold Oper.wp
  simp only [execOp, hop, hm, hx, hv, Sem.run_bind, hrun, Result.andThen_ok, Sem.run_pure, Oper.upon_skip]
  exact hK' _ _ (hK _ hm' (MapTurn.of w b y))
/-- 'm[k]' at the operation. -/
theorem wpList_lookup_is {ops : Array Oper} {rest : List Oper} {o : Oper} {a : Act} {Q : Exit → Act → World → Prop} (w : World) (hg : o.guard = none) (m x : Operand) (t : TypeId) (c : Bool) (hop : o.op = Op.lookup t m x c)
    (kt e : TypeId) (ht : P.underlying t = some (.map kt e)) (hk : P.underlying kt = some (.int .i64)) (z : Value) (hz : ∀ w, (zeroValue e).run P w = .ok z w) (b : Nat) (f : Int → Option Value) (h : MapIs w b f) (hm : a.eval m = .map (some b)) (k : Int) (hx : a.eval x = .int .i64 k)
    (hK : wpList P ops Q rest (a.put o.dst (if c then .tuple #[(f k).getD z, .bool (f k).isSome] else (f k).getD z)) w) : wpList P ops Q (o :: rest) a w := by
  refine wpList_plain hg fun K' hK' => ?_
  have hrun := h.lookup ht hk hz c k
  unfold Oper.wp
  simp only [execOp, hop, hm, hx, Sem.run_bind, hrun, Result.andThen_ok, Sem.run_pure, Oper.upon_value]
  exact hK' _ _ hK
/-- 'delete(m, k)' at the operation. -/
theorem wpList_delete_is {ops : Array Oper} {rest : List Oper} {o : Oper} {a : Act} {Q : Exit → Act → World → Prop} (w : World) (hg : o.guard = none) (m x : Operand) (t kt : TypeId) (hop : o.op = .call { callee := .builtin .delete, args := #[m, x], argTypes := #[t, kt] })
    (e : TypeId) (ht : P.underlying t = some (.map kt e)) (hk : P.underlying kt = some (.int .i64)) (b : Nat) (f : Int → Option Value) (h : MapIs w b f) (hm : a.eval m = .map (some b)) (k : Int) (hx : a.eval x = .int .i64 k)
    (hK : ∀ w', MapIs w' b (fun j => if j = k then none else f j) → MapTurn w w' b → wpList P ops Q rest (a.put o.dst (.tuple #[])) w') : wpList P ops Q (o :: rest) a w := by
  refine wpList_plain hg fun K' hK' => ?_
  obtain ⟨y, hrun, hm'⟩ := h.delete ht hk o.type k
  unfold Oper.wp execOp
  simp only [hop, resolve, invoke, builtin, Sem.run_bind, Sem.run_pure, Result.andThen_ok, List.map_toArray, List.map_cons, List.map_nil, hm, hx, hrun, Oper.upon_value]
  exact hK' _ _ (hK _ hm' (MapTurn.of w b y))
end
end Go.Proofs.Ytlpklloagaccoaa
