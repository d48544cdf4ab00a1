/- Ranging over a map with whole numbers as keys, with stores at keys that are there. No condition. The span of a trial: its parts; what is of it, what is held (trial.walk.span, .hold). Conditions: handles. Going over what can be reached (trial.walk.reach), with any call that marks. Conditions: the engine is as one that was made; handles; in a million rounds. -/
import Derived.Test.YtlpklloagaccoaaGreatMaps
import Derived.Maps.RangeWalk
import Derived.Test.YtlpklloagaccoaaGreatRing
import Derived.Test.YtlpklloagaccoaaGreatSweep
import Derived.Outline
import Derived.Test.YtlpklloagaccoaaGreatLTells
import Derived.Test.YtlpklloagaccoaaGreatTells
import Derived.Test.YtlpklloagaccoaaGreatDelF
import Derived.Test.YtlpklloagaccoaaGreatRefs
import Derived.Deep.LoopGhost
import Derived.Deep.RegionLaw
namespace Go.Proofs.YtlpklloagaccoaaGreat
open Go.RowKit
set_option linter.unusedVariables false

/-- The keys still to come. -/
def leftL (es : Array MapEntry) (seen : Array Nat) : List Int := (es.toList.filter fun e => !seen.contains e.born).map fun e => keyNum e.key
/-- Block r is an iterator over the map in block b. -/
structure RngX (w : World) (b r : Nat) (f : Int → Option Value) (left : List Int) (es : Array MapEntry) (clock since c0 : Nat) (seen : Array Nat) : Prop where
  map : w.heap[b]? = some (.map es clock)
  ok : MapOk es clock
  get : ∀ k, mget es.toList k = f k
  it : w.heap[r]? = some (.mapIter (some b) since seen c0)
  old : ∀ x ∈ es.toList, x.born < since
  le0 : since ≤ c0
  le1 : since ≤ clock
  left : left = leftL es seen
def RngIs (w : World) (b r : Nat) (f : Int → Option Value) (left : List Int) : Prop := ∃ es clock since c0 seen, RngX w b r f left es clock since c0 seen
theorem leftL_len (es : Array MapEntry) (seen : Array Nat) : (leftL es seen).length = (leftOf es seen).size := by
  unfold leftL leftOf
  rw [List.length_map, ← Array.toList_filter, Array.length_toList]
theorem leftL_pairs (es : Array MapEntry) (seen : Array Nat) : leftL es seen = ((es.toList.map fun e => (e.born, keyNum e.key)).filter fun p => !seen.contains p.1).map (·.2) := by
  unfold leftL
  rw [List.filter_map, List.map_map]
  rfl
section
variable {P : Program} {t kt e : TypeId} {w w' : World} {b r : Nat} {f : Int → Option Value} {left : List Int}
theorem RngIs.mapIs (h : RngIs w b r f left) : MapIs w b f := let ⟨es, clock, _, _, _, X⟩ := h; ⟨es, clock, X.map, X.ok, X.get⟩
theorem RngIs.ne (h : RngIs w b r f left) : r ≠ b := by
  obtain ⟨es, clock, _, _, _, X⟩ := h
  intro e
  have := X.it
  rw [e, X.map] at this
  cases this
theorem RngIs.ltr (h : RngIs w b r f left) : r < w.heap.size := let ⟨es, clock, _, _, _, X⟩ := h; lt_of_block X.it
theorem RngIs.of_eq (h : RngIs w b r f left) (e1 : w'.heap[b]? = w.heap[b]?) (e2 : w'.heap[r]? = w.heap[r]?) : RngIs w' b r f left :=
  let ⟨es, clock, s, c, n, X⟩ := h; ⟨es, clock, s, c, n, e1.trans X.map, X.ok, X.get, e2.trans X.it, X.old, X.le0, X.le1, X.left⟩
theorem RngIs.congr {g : Int → Option Value} (h : RngIs w b r f left) (e : ∀ k, f k = g k) : RngIs w b r g left :=
  let ⟨es, clock, s, c, n, X⟩ := h; ⟨es, clock, s, c, n, X.map, X.ok, fun k => (X.get k).trans (e k), X.it, X.old, X.le0, X.le1, X.left⟩
theorem ent_inj {es : Array MapEntry} {clock : Nat} (ok : MapOk es clock) {x y : MapEntry} (hx : x ∈ es.toList) (hy : y ∈ es.toList) (h : keyNum x.key = keyNum y.key) : x = y := by
  have h1 := key_of_num (ok.keys x hx) rfl
  have h2 := key_of_num (ok.keys y hy) rfl
  refine entry_eq_of_key (List.pairwise_map.1 ok.stamped.2.2) hx hy ?_
  rw [h1, h2, h]
theorem born_one {es : Array MapEntry} {clock : Nat} (ok : MapOk es clock) {x y : MapEntry} (hx : x ∈ es.toList) (hy : y ∈ es.toList) (h : x.born = y.born) : x = y := by
  have hp : es.toList.Pairwise (fun a b => a.born ≠ b.born) := List.pairwise_map.1 ok.stamped.2.1
  obtain ⟨i, hi, rfl⟩ := List.getElem_of_mem hx
  obtain ⟨j, hj, rfl⟩ := List.getElem_of_mem hy
  rcases Nat.lt_trichotomy i j with h1 | h1 | h1
  · exact absurd h (List.pairwise_iff_getElem.1 hp i j hi hj h1)
  · subst h1; rfl
  · exact absurd h.symm (List.pairwise_iff_getElem.1 hp j i hj hi h1)
theorem mget_ent {es : Array MapEntry} {clock : Nat} (ok : MapOk es clock) {x : MapEntry} (hx : x ∈ es.toList) : mget es.toList (keyNum x.key) = some x.val := by
  unfold mget
  cases hm : mfind es.toList (keyNum x.key) 0 with
  | none => exact absurd rfl (mfind_none.1 hm x hx)
  | some p =>
    obtain ⟨n, e0, _, he0, hk0, hv0, _⟩ := mfind_some (v := p.2) (j := p.1) (by rw [hm])
    have := ent_inj ok (List.mem_of_getElem? he0) hx hk0
    subst this
    simp [hv0]
theorem RngIs.sub (h : RngIs w b r f left) {k : Int} (hk : k ∈ left) : ∃ v, f k = some v := by
  obtain ⟨es, clock, s, c, n, X⟩ := h
  rw [X.left] at hk
  unfold leftL at hk
  obtain ⟨x, hx, rfl⟩ := List.mem_map.1 hk
  exact ⟨x.val, by rw [← X.get, mget_ent X.ok (List.mem_filter.1 hx).1]⟩
/-- 'range m'. -/
theorem MapIs.range (h : MapIs w b f) (ht : P.underlying t = some (.map kt e)) :
    ∃ x left, (Instr.range t (.map (some b))).run P w = .ok (.pointer (some ⟨w.heap.size, 0, none⟩)) (w.alloc x) ∧ RngIs (w.alloc x) b w.heap.size f left ∧ ∀ k, k ∈ left ↔ ∃ v, f k = some v := by
  have hlt := h.lt
  obtain ⟨es, clock, hb, ok, hf⟩ := h
  refine ⟨_, leftL es #[], run_range_map w t kt e b es clock ht hb, ⟨es, clock, clock, clock, #[], (heap_alloc_old w _ hlt).trans hb, ok, hf, heap_alloc_new w _, ok.stamped.1, Nat.le_refl _, Nat.le_refl _, rfl⟩, fun k => ?_⟩
  unfold leftL
  rw [List.mem_map, ← hf k]
  constructor
  · rintro ⟨x, hx, rfl⟩
    exact ⟨x.val, mget_ent ok (List.mem_filter.1 hx).1⟩
  · rintro ⟨v, hv⟩
    unfold mget at hv
    cases hm : mfind es.toList k 0 with
    | none => rw [hm] at hv; cases hv
    | some p =>
      obtain ⟨n, e0, _, he0, hk0, _, _⟩ := mfind_some (v := p.2) (j := p.1) (by rw [hm])
      exact ⟨e0, List.mem_filter.2 ⟨List.mem_of_getElem? he0, by simp⟩, hk0⟩
/-- The step. -/
theorem RngIs.next (h : RngIs w b r f left) (ty : TypeId) :
    (left = [] ∧ (Instr.next (.pointer (some ⟨r, 0, none⟩)) false ty).run P w = .ok (.tuple #[.bool false]) w) ∨
    ∃ k v w' left', k ∈ left ∧ f k = some v ∧ (Instr.next (.pointer (some ⟨r, 0, none⟩)) false ty).run P w = .ok (.tuple #[.bool true, .int .i64 k, v]) w' ∧
      RngIs w' b r f left' ∧ (∀ j, j ∈ left' ↔ j ∈ left ∧ j ≠ k) ∧ left'.length < left.length ∧ MapTurn w w' r ∧ (Instr.entry (.pointer (some ⟨r, 0, none⟩))).run P w' = .ok (.tuple #[.int .i64 k, v]) w' := by
  have hne := h.ne
  obtain ⟨es, clock, since, c0, seen, X⟩ := h
  rcases run_next_at (P := P) w ty r b since c0 seen es clock X.it X.map X.old X.le0 with ⟨h0, hrun⟩ | ⟨en, he, w1, hal, hrun⟩
  · refine .inl ⟨?_, hrun⟩
    rw [X.left]
    exact List.eq_nil_of_length_eq_zero (by rw [leftL_len]; exact h0)
  · obtain ⟨hem, hes⟩ := mem_left he
    have hkey := key_of_num (X.ok.keys en hem) rfl
    have hr1 : w1.heap[r]? = some (.mapIter (some b) since seen c0) := by rcases hal with rfl | rfl <;> exact X.it
    have hb1 : w1.heap[b]? = some (.map es clock) := by rcases hal with rfl | rfl <;> exact X.map
    have hlt := lt_of_block hr1
    have hs : (ChangeMaps.setBlock w1 r (.mapIter (some b) since (seen.push en.born) clock)).heap[r]? = some (.mapIter (some b) since (seen.push en.born) clock) := by
      show (w1.heap.setIfInBounds r _)[r]? = _
      simp [hlt]
    have hb' : (ChangeMaps.setBlock w1 r (.mapIter (some b) since (seen.push en.born) clock)).heap[b]? = some (.map es clock) := by
      show (w1.heap.setIfInBounds r _)[b]? = _
      rw [Array.getElem?_setIfInBounds_ne hne]; exact hb1
    rw [hkey] at hrun
    have hen := run_entry_at (P := P) _ r b since seen es clock en hs hb' hem X.ok.stamped.2.1
    rw [hkey] at hen
    refine .inr ⟨keyNum en.key, en.val, _, leftL es (seen.push en.born), ?_, by rw [← X.get]; exact mget_ent X.ok hem, hrun, ⟨es, clock, since, clock, seen.push en.born, hb', X.ok, X.get, hs, X.old, X.le1, X.le1, rfl⟩, fun j => ?_, ?_, ?_, hen⟩
    · rw [X.left]
      unfold leftL
      exact List.mem_map.2 ⟨en, List.mem_filter.2 ⟨hem, by rw [hes]; rfl⟩, rfl⟩
    · rw [X.left]
      unfold leftL
      rw [List.mem_map, List.mem_map]
      constructor
      · rintro ⟨x, hx, rfl⟩
        obtain ⟨h1, h2⟩ := List.mem_filter.1 hx
        rw [contains_push] at h2
        simp only [Bool.not_or, Bool.and_eq_true, Bool.not_eq_true'] at h2
        refine ⟨⟨x, List.mem_filter.2 ⟨h1, by rw [h2.1]; rfl⟩, rfl⟩, fun e => ?_⟩
        have := ent_inj X.ok h1 hem e
        subst this
        simp at h2
      · rintro ⟨⟨x, hx, rfl⟩, hj⟩
        obtain ⟨h1, h2⟩ := List.mem_filter.1 hx
        refine ⟨x, List.mem_filter.2 ⟨h1, ?_⟩, rfl⟩
        rw [contains_push]
        simp only [Bool.not_or, Bool.and_eq_true, Bool.not_eq_true'] at h2 ⊢
        refine ⟨h2, ?_⟩
        simp only [beq_eq_false_iff_ne]
        exact fun e => hj (by rw [born_one X.ok h1 hem e])
    · rw [X.left, leftL_len, leftL_len]
      exact left_shrinks es seen en he
    · rcases hal with rfl | rfl
      · exact ⟨rfl, rfl, rfl, by simp [ChangeMaps.setBlock], fun k hk => by
          show (w1.heap.setIfInBounds r _)[k]? = _
          rw [Array.getElem?_setIfInBounds_ne (Ne.symm hk)]⟩
      · exact ⟨rfl, rfl, rfl, by show (w.heap.setIfInBounds r _).size = w.heap.size; simp, fun k hk => by
          show (w.heap.setIfInBounds r _)[k]? = _
          rw [Array.getElem?_setIfInBounds_ne (Ne.symm hk)]⟩
theorem modify_map {β : Type} {es : Array MapEntry} {n : Nat} {e0 : MapEntry} (hes : es[n]? = some e0) (g : MapEntry → MapEntry) (q : MapEntry → β) (hg : q (g e0) = q e0) : ((es.modify n g).toList.map q) = es.toList.map q := by
  apply List.ext_getElem?
  intro m
  simp only [List.getElem?_map, Array.getElem?_toList, Array.getElem?_modify]
  by_cases hmn : n = m
  · subst hmn; simp [hes, hg]
  · simp [hmn]
/-- 'm[k] = v' at a key that is there. -/
theorem RngIs.update (h : RngIs w b r f left) (ht : P.underlying t = some (.map kt e)) (hk : P.underlying kt = some (.int .i64)) (k : Int) (h0 : 0 ≤ k) (h1 : k < KB) (hv : ∃ u, f k = some u) (v : Value) :
    ∃ x, (Instr.mapUpdate t (.map (some b)) (.int .i64 k) v).run P w = .ok () { w with heap := w.heap.setIfInBounds b x } ∧ RngIs { w with heap := w.heap.setIfInBounds b x } b r (fun j => if j = k then some v else f j) left := by
  have hne := h.ne
  obtain ⟨x, hrun, hM⟩ := h.mapIs.update ht hk k h0 h1 v
  refine ⟨x, hrun, ?_⟩
  obtain ⟨es, clock, since, c0, seen, X⟩ := h
  obtain ⟨u, hu⟩ := hv
  have hlt := lt_of_block X.map
  have hkeys : ∀ x ∈ es.toList, ∃ k : Int, x.key = .int .i64 k := fun x hx => let ⟨k, hk, _⟩ := X.ok.keys x hx; ⟨k, hk⟩
  have hso : ∀ x, (setObj b x).run P w = .ok () { w with heap := w.heap.setIfInBounds b x } := fun x => by simp [setObj, Sem.run, X.map]
  have hg := X.get k
  unfold mget at hg
  cases hm : mfind es.toList k 0 with
  | none => rw [hm, hu] at hg; cases hg
  | some p =>
    obtain ⟨n, v0⟩ := p
    obtain ⟨n', e0, hn, he0, hk0, hv0, hfirst⟩ := mfind_some hm
    have hn' : n = n' := by omega
    subst hn'
    have hekey := key_of_num (X.ok.keys e0 (List.mem_of_getElem? he0)) hk0
    have hes : es[n]? = some e0 := by simpa using he0
    have hrun2 : (Instr.mapUpdate t (.map (some b)) (.int .i64 k) v).run P w = .ok () { w with heap := w.heap.setIfInBounds b (.map (es.modify n fun e => { e with key := .int .i64 k, val := v }) clock) } := by
      simp only [Instr.mapUpdate, Sem.run_bind, run_underlying ht, Result.andThen_ok, MapKept.run_getObj_map X.map, run_checkKey_int _ hk, run_findKey_int hk hkeys, hm, hso, Instr.keyThatStays, hes, Option.map_some, Option.getD_some, hekey, sameBits_int, if_true, Sem.run_pure]
    rw [hrun] at hrun2
    have hw : ({ w with heap := w.heap.setIfInBounds b x } : World) = { w with heap := w.heap.setIfInBounds b (.map (es.modify n fun e => { e with key := .int .i64 k, val := v }) clock) } := by
      injection hrun2
    obtain ⟨es2, clock2, hb2, ok2, get2⟩ := hM
    have hb3 : ({ w with heap := w.heap.setIfInBounds b x } : World).heap[b]? = some (.map (es.modify n fun e => { e with key := .int .i64 k, val := v }) clock) := by
      rw [hw]
      show (w.heap.setIfInBounds b _)[b]? = _
      simp [hlt]
    rw [hb3] at hb2
    cases hb2
    refine ⟨_, clock, since, c0, seen, hb3, ok2, get2, ?_, fun y hy => ?_, X.le0, X.le1, ?_⟩
    · show (w.heap.setIfInBounds b x)[r]? = _
      rw [Array.getElem?_setIfInBounds_ne (Ne.symm hne)]; exact X.it
    · have h2 : y.born ∈ (es.modify n fun e => { e with key := .int .i64 k, val := v }).toList.map (·.born) := List.mem_map.2 ⟨y, hy, rfl⟩
      rw [modify_map hes _ (·.born) rfl] at h2
      obtain ⟨z, hz, he⟩ := List.mem_map.1 h2
      rw [← he]; exact X.old z hz
    · rw [X.left, leftL_pairs, leftL_pairs, modify_map hes _ (fun e => (e.born, keyNum e.key)) (by show (e0.born, keyNum (.int .i64 k)) = _; rw [hekey])]
end
/-! ### at the operations -/
section
variable {P : Program} {ops : Array Oper} {rest : List Oper} {o : Oper} {a : Act} {Q : Exit → Act → World → Prop}
theorem wpList_range_is (w : World) (hg : o.guard = none) (m : Operand) (t : TypeId) (hop : o.op = Op.range t m) (kt e : TypeId) (ht : P.underlying t = some (.map kt e)) (b : Nat) (f : Int → Option Value) (h : MapIs w b f) (hm : a.eval m = .map (some b))
    (hK : ∀ x left, RngIs (w.alloc x) b w.heap.size f left → (∀ k, k ∈ left ↔ ∃ v, f k = some v) → wpList P ops Q rest (a.put o.dst (.pointer (some ⟨w.heap.size, 0, none⟩))) (w.alloc x)) : wpList P ops Q (o :: rest) a w := by
  refine wpList_plain hg fun K' hK' => ?_
  obtain ⟨x, left, hrun, h1, h2⟩ := h.range ht
  unfold Oper.wp
  simp only [execOp, hop, hm, Sem.run_bind, hrun, Result.andThen_ok, Sem.run_pure, Oper.upon_value]
  exact hK' _ _ (hK x left h1 h2)
theorem wpList_next_is (w : World) (hg : o.guard = none) (it : Operand) (hop : o.op = Op.next it false) (b r : Nat) (f : Int → Option Value) (left : List Int) (h : RngIs w b r f left) (hit : a.eval it = .pointer (some ⟨r, 0, none⟩))
    (hDone : left = [] → wpList P ops Q rest (a.put o.dst (.tuple #[.bool false])) w)
    (hMore : ∀ k v w' left', k ∈ left → f k = some v → RngIs w' b r f left' → (∀ j, j ∈ left' ↔ j ∈ left ∧ j ≠ k) → left'.length < left.length → MapTurn w w' r → (Instr.entry (.pointer (some ⟨r, 0, none⟩))).run P w' = .ok (.tuple #[.int .i64 k, v]) w' → wpList P ops Q rest (a.put o.dst (.tuple #[.bool true, .int .i64 k, v])) w') : wpList P ops Q (o :: rest) a w := by
  refine wpList_plain hg fun K' hK' => ?_
  unfold Oper.wp
  rcases h.next (P := P) o.type with ⟨h0, hrun⟩ | ⟨k, v, w', left', h1, h2, hrun, h3, h4, h5, h6, h7⟩
  · simp only [execOp, hop, hit, Sem.run_bind, hrun, Result.andThen_ok, Sem.run_pure, Oper.upon_value]
    exact hK' _ _ (hDone h0)
  · simp only [execOp, hop, hit, Sem.run_bind, hrun, Result.andThen_ok, Sem.run_pure, Oper.upon_value]
    exact hK' _ _ (hMore k v w' left' h1 h2 h3 h4 h5 h6 h7)
theorem wpList_mapUpdate_rng (w : World) (hg : o.guard = none) (m x v : Operand) (t : TypeId) (hop : o.op = Op.mapUpdate t m x v)
    (kt e : TypeId) (ht : P.underlying t = some (.map kt e)) (hk : P.underlying kt = some (.int .i64)) (b r : Nat) (f : Int → Option Value) (left : List Int) (h : RngIs w b r f left) (hm : a.eval m = .map (some b)) (k : Int) (hx : a.eval x = .int .i64 k) (h0 : 0 ≤ k) (h1 : k < KB) (hf : ∃ u, f k = some u)
    (val : Value) (hv : a.eval v = val) (hK : ∀ w', RngIs w' b r (fun j => if j = k then some val else f j) left → MapTurn w w' b → wpList P ops Q rest (a.put o.dst undef) w') : wpList P ops Q (o :: rest) a w := by
  refine wpList_plain hg fun K' hK' => ?_
  obtain ⟨y, hrun, hm'⟩ := h.update ht hk k h0 h1 hf val
  unfold Oper.wp
  simp only [execOp, hop, hm, hx, hv, Sem.run_bind, hrun, Result.andThen_ok, Sem.run_pure, Oper.upon_skip]
  exact hK' _ _ (hK _ hm' (MapTurn.of w b y))
end
end Go.Proofs.YtlpklloagaccoaaGreat
namespace Go.Proofs.YtlpklloagaccoaaGreat
open Go.RowKit
set_option linter.unusedVariables false

/-- A span as a map: which are of it, and a number for each. -/
def inM (V : Int → Bool) (n : Int → Int) : Int → Option Value := fun k => if V k = true then some (.int .i64 (n k)) else none
theorem inM_upd (V : Int → Bool) (h k : Int) : (if k = h then some (Value.int .i64 0) else inM V (fun _ => 0) k) = inM (updS V h true) (fun _ => 0) k := by
  unfold inM updS
  by_cases e : k = h
  · rw [if_pos e, if_pos e]; rfl
  · rw [if_neg e, if_neg e]
theorem inM_get (V : Int → Bool) (n : Int → Int) (k : Int) : ((inM V n k).getD (.int .i64 0) = .int .i64 (if V k = true then n k else 0)) ∧ (inM V n k).isSome = V k := by
  unfold inM
  cases h : V k <;> simp
structure TwX (o : Own) (w : World) (s p : Nat) (fi : Int → Option Value) (H : Int → Bool) (ws : List Int) (bi bh : Nat) (vw : Value) : Prop where
  blk : Blk o w 60 s (.cells #[.pointer (some ⟨p, 0, none⟩), .map (some bi), .map (some bh), vw] 150 (0, 0))
  ins : MapBlk o w 61 bi fi
  held : MapBlk o w 62 bh (setMap H)
  work : LRow o w 63 vw ws
def Tw (o : Own) (w : World) (s p : Nat) (fi : Int → Option Value) (H : Int → Bool) (ws : List Int) (bi bh : Nat) : Prop := ∃ vw, TwX o w s p fi H ws bi bh vw
theorem TwX.keep {lo hi : Nat} {o o' : Own} {w w' : World} {s p : Nat} {fi : Int → Option Value} {H : Int → Bool} {ws : List Int} {bi bh : Nat} {vw : Value} (h : TwX o w s p fi H ws bi bh vw) (k : Fr lo hi o o' w w') (hr : 64 ≤ lo ∨ hi ≤ 60) : TwX o' w' s p fi H ws bi bh vw :=
  ⟨h.blk.keep k (by omega), h.ins.keep k (by omega), h.held.keep k (by omega), h.work.keep k (by omega)⟩
theorem Tw.keep {lo hi : Nat} {o o' : Own} {w w' : World} {s p : Nat} {fi : Int → Option Value} {H : Int → Bool} {ws : List Int} {bi bh : Nat} (h : Tw o w s p fi H ws bi bh) (k : Fr lo hi o o' w w') (hr : 64 ≤ lo ∨ hi ≤ 60) : Tw o' w' s p fi H ws bi bh :=
  let ⟨v, h⟩ := h; ⟨v, h.keep k hr⟩
/-- Behind a call that marks. -/
def MetPost (o : Own) (w : World) (s p : Nat) (b : Bool) (fi : Int → Option Value) (H : Int → Bool) (ws : List Int) (bi bh : Nat) (vw : Value) (e : Ending) (w' : World) : Prop :=
  e = .returned (.bool b) ∧ ∃ o', Fr 61 63 o o' w w' ∧ TwX o' w' s p fi H ws bi bh vw
set_option maxRecDepth 100000 in
theorem tspan {o : Own} {s p : Nat} {V H : Int → Bool} {ws : List Int} {bi bh : Nat} {vw : Value} (h : Int) (w : World) (ho : Owned o w) (X : TwX o w s p (inM V fun _ => 0) H ws bi bh vw) (h0 : 0 ≤ h) (h1 : h < KB) :
    Calls Tryz.prog 142 #[.pointer (some ⟨s, 0, none⟩), .int .i64 h] w (MetPost o w s p (!V h) (inM (updS V h true) fun _ => 0) H ws bi bh vw) := by
  have c1 := X.blk.cell 1
  simp only [List.getElem?_toArray, List.getElem?_cons_zero, List.getElem?_cons_succ] at c1
  have hpl := X.blk.lt
  have hlk : (Instr.lookup 148 (.map (some bi)) (.int .i64 h) true).run Tryz.prog w = .ok (.tuple #[.int .i64 (if V h = true then 0 else 0), .bool (V h)]) w := by
    rw [MapIs.lookup X.ins.2 Tryz.underlying148 Tryz.underlying3 (z := .int .i64 0) (fun w => by kernel_rfl) true h, if_pos rfl, (inM_get V (fun _ => 0) h).1, (inM_get V (fun _ => 0) h).2]
  have HX := Lib.hid X
  have HO := Lib.hid ho
  clear X ho
  cases hv : V h with
  | true =>
    rw [hv] at hlk
    have HV := Lib.hid hv
    clear hv
    go_enter Tryz.func142, Tryz.ntmps142
    go_wp2_with fail
    go_ret
    exact ⟨rfl, o, Fr.refl HO.out, by rw [updS_same HV.out]; exact HX.out⟩
  | false =>
    rw [hv] at hlk
    have HV := Lib.hid hv
    clear hv
    go_enter Tryz.func142, Tryz.ntmps142
    go_wp2_with (at_mapUpdate; refine wpList_mapUpdate_is _ rfl _ _ _ 148 rfl 3 3 Tryz.underlying148 Tryz.underlying3 bi _ (by exact HX.out.ins.2) rfl h rfl h0 h1 _ rfl ?_; intro w2 hm2 ht2; have HF2 := Lib.hid (ht2.fr (lo := 61) (hi := 62) HO.out (by rw [HX.out.ins.1]; omega)); have HM2 := Lib.hid (hm2.congr fun j => inM_upd V h j); clear hm2 ht2)
    go_ret
    have Y := HX.out
    exact ⟨rfl, o, HF2.out.mono (by omega) (by omega), Y.blk.keep HF2.out (by omega), ⟨Y.ins.1, HM2.out⟩, Y.held.keep HF2.out (by omega), Y.work.keep HF2.out (by omega)⟩
set_option maxRecDepth 100000 in
theorem thold {o : Own} {s p : Nat} {fi : Int → Option Value} {V : Int → Bool} {ws : List Int} {bi bh : Nat} {vw : Value} (h : Int) (w : World) (ho : Owned o w) (X : TwX o w s p fi V ws bi bh vw) (h0 : 0 ≤ h) (h1 : h < KB) :
    Calls Tryz.prog 146 #[.pointer (some ⟨s, 0, none⟩), .int .i64 h] w (MetPost o w s p (!V h) fi (updS V h true) ws bi bh vw) := by
  have c2 := X.blk.cell 2
  simp only [List.getElem?_toArray, List.getElem?_cons_zero, List.getElem?_cons_succ] at c2
  have hpl := X.blk.lt
  have hlk : (Instr.lookup 100 (.map (some bh)) (.int .i64 h) false).run Tryz.prog w = .ok (.bool (V h)) w := by
    rw [MapIs.lookup X.held.2 Tryz.underlying100 Tryz.underlying3 zero_boolL false h]; simp [setMap_get]
  have HX := Lib.hid X
  have HO := Lib.hid ho
  clear X ho
  go_enter Tryz.func146, Tryz.ntmps146
  go_wp2_with (at_mapUpdate; refine wpList_mapUpdate_is _ rfl _ _ _ 100 rfl 3 4 Tryz.underlying100 Tryz.underlying3 bh _ (by exact HX.out.held.2) rfl h rfl h0 h1 _ rfl ?_; intro w2 hm2 ht2; have HF2 := Lib.hid (ht2.fr (lo := 62) (hi := 63) HO.out (by rw [HX.out.held.1]; omega)); have HM2 := Lib.hid (hm2.congr fun j => setMap_upd V h j); clear hm2 ht2)
  go_ret
  have Y := HX.out
  exact ⟨rfl, o, HF2.out.mono (by omega) (by omega), Y.blk.keep HF2.out (by omega), Y.ins.keep HF2.out (by omega), ⟨Y.held.1, HM2.out⟩, Y.work.keep HF2.out (by omega)⟩
end Go.Proofs.YtlpklloagaccoaaGreat
namespace Go.Proofs.YtlpklloagaccoaaGreat
open Go.RowKit
set_option linter.unusedVariables false

theorem EngRep.kind {o : Own} {w : World} {r p : Nat} {S : EngS} (E : EngRep o w r p S) {h : Int} {x : Ob} (hx : S.ob h = some x) : 1 ≤ x.kind := by
  obtain ⟨ps, pt, pz, pp, bw, bk, v, K, E, A⟩ := E
  obtain ⟨y, hy, e1, _⟩ := A.of_some hx
  have := (E.sp.obok hy).1.1
  rw [e1]; exact this
theorem EngRep.rng {o : Own} {w : World} {r p : Nat} {S : EngS} (E : EngRep o w r p S) {h : Int} {x : Ob} (hx : S.ob h = some x) : 0 ≤ h ∧ h < KB := by
  obtain ⟨ps, pt, pz, pp, bw, bk, v, K, E, A⟩ := E
  obtain ⟨y, hy, e1, _⟩ := A.of_some hx
  have := E.sp.hrange hy
  unfold KB
  omega
/-- 'append' to a row, at a step of a region that draws its order. -/
theorem step_append_row {ops : Array Oper} {o : Oper} {a : Act} {K : Act → World → Prop} {Q : Exit → Act → World → Prop} {E : Prop} (w : World) (hgd : o.guard = none) (s x : Operand) (t : TypeId)
    (hop : o.op = .call { callee := .builtin .append, args := #[s, x], argTypes := #[t, t] }) (ht : Tryz.prog.underlying t = some (.slice 3)) {own : Own} (hO : Owned own w) (r : Nat) {v : Value} {xs : List Int} (hs : a.eval s = v) (hown : LRow own w r v xs)
    {B : Nat} {A : Option Addr} {m c : Nat} {news : List Int} (hx : a.eval x = .slice A m c) (hr : RdS w B .i64 A m news) (h63 : xs.length + m ≤ 1099511627776)
    (hK : ∀ v' w' own', Fr r (r + 1) own own' w w' → LRow own' w' r v' (xs ++ news) → K (a.put o.dst v') w') : if Region.wanted o (yielded ops a.tmps) = true then Oper.wp Tryz.prog o a w K Q else E := by
  have hw : Region.wanted o (yielded ops a.tmps) = true := by simp [Region.wanted, hgd]
  rw [if_pos hw]
  obtain ⟨v', w', own', hrun, h1, h2, h3⟩ := run_append_row w ht elInt (by omega) hO r hown.1 hown.2 c hr h63 o.type
  unfold Oper.wp execOp
  simp only [hop, resolve, invoke, builtin, Sem.run_bind, Sem.run_pure, Result.andThen_ok, List.map_toArray, List.map_cons, List.map_nil, hs, hx, hrun, Oper.upon_value]
  exact hK v' w' own' h1 ⟨h2, h3⟩
def RchPost (o : Own) (w : World) (s p : Nat) (fi : Int → Option Value) (H : Int → Bool) (bi bh : Nat) (e : Ending) (w' : World) : Prop :=
  e = .returned (.tuple #[]) ∧ ∃ o', Fr 60 64 o o' w w' ∧ Tw o' w' s p fi H [] bi bh
/-- The call that marks. -/
structure MetF (g s p bi bh : Nat) (fi : (Int → Bool) → Int → Option Value) (Hf : (Int → Bool) → Int → Bool) : Prop where
  call : ∀ (V : Int → Bool) (ws : List Int) (vw : Value) (h : Int) (o : Own) (w : World), Owned o w → TwX o w s p (fi V) (Hf V) ws bi bh vw → 0 ≤ h → h < KB → Calls Tryz.prog g #[.pointer (some ⟨s, 0, none⟩), .int .i64 h] w (MetPost o w s p (!V h) (fi (updS V h true)) (Hf (updS V h true)) ws bi bh vw)
  enters : ∀ args w, (callFunc g args).run Tryz.prog w = .ok (.enter g args) w
set_option maxRecDepth 100000 in
set_option maxHeartbeats 4000000 in
theorem treach {o : Own} {s p g r n bi bh : Nat} {S : EngS} {V V' : Int → Bool} {ws0 ws1 : List Int} {fi : (Int → Bool) → Int → Option Value} {Hf : (Int → Bool) → Int → Bool} (M : MetF g s p bi bh fi Hf) (v : Value) (w : World) (ho : Owned o w) (E : EngRep o w 1 p S) (X : Tw o w s p (fi V) (Hf V) ws1 bi bh) (L : LRow o w r v ws0) (D : Rc S V ws0 V' n) (hn : n < 1000000) (hk : ∀ k ∈ ws0, 0 ≤ k ∧ k < KB) (hrr : ∀ y, ∀ k ∈ refsA S y, 0 ≤ k ∧ k < KB) :
    Calls Tryz.prog 140 #[.pointer (some ⟨s, 0, none⟩), v, .func (.func g) #[.pointer (some ⟨s, 0, none⟩)] #[]] w (RchPost o w s p (fi V') (Hf V') bi bh) := by
  obtain ⟨A, cap, hv, _⟩ := L.rd
  subst hv
  obtain ⟨vw, X⟩ := X
  have eg := M.enters
  have HM := Lib.hid M
  have hl0 := D.len
  have HC := Lib.hid (clone_call ho L (by omega))
  have HX := Lib.hid X
  have HE := Lib.hid E
  have HD := Lib.hid D
  have HK := Lib.hid (And.intro hk (And.intro hrr hn))
  have HO := Lib.hid ho
  have c3 := X.blk.cell 3
  simp only [List.getElem?_toArray, List.getElem?_cons_zero, List.getElem?_cons_succ] at c3
  have hpl := X.blk.lt
  clear M X E D L hk hrr hn ho hl0
  go_enter Tryz.func140, Tryz.ntmps140
  go_wp2_with fail
  go_at_call 124
  refine HC.out.mono ?_
  rintro e w2 ⟨v2, rfl, F2, R2⟩
  obtain ⟨o2, G2, L2⟩ := R2.own F2 63
  have X2 := HX.out
  have B2 := X2.blk.keep G2 (.inl (by omega))
  have I2 := X2.ins.keep G2 (.inl (by omega))
  have H2 := X2.held.keep G2 (.inl (by omega))
  have hpl2 := Nat.lt_of_lt_of_le hpl F2.size
  have f32 := B2.free 3
  have c32 := B2.cell 3
  simp only [List.getElem?_toArray, List.getElem?_cons_zero, List.getElem?_cons_succ] at c32
  clear F2 R2 c3 hpl X2
  obtain ⟨A2, cap2, hv2, _⟩ := L2.rd
  subst hv2
  have G3 : Fr 60 61 o2 o2 w2 (w2.setCell ⟨s, 3, none⟩ (.slice A2 ws0.length cap2)) := (Fr.refl G2.fresh).setCell _ _ (.inl ⟨by simp only [B2.1]; omega, by simp only [B2.1]; omega⟩)
  have X3 : TwX o2 (w2.setCell ⟨s, 3, none⟩ (.slice A2 ws0.length cap2)) s p (fi V) (Hf V) ws0 bi bh (.slice A2 ws0.length cap2) := ⟨B2.set 3 _, I2.keep G3 (.inr (by omega)), H2.keep G3 (.inr (by omega)), L2.keep G3 (.inr (by omega))⟩
  have HF3 := Lib.hid ((G2.mono (lo' := 60) (hi' := 64) (by omega) (by omega)).trans (G3.mono (by omega) (by omega)))
  have HX3 := Lib.hid X3
  clear G2 L2 B2 I2 H2 G3 X3
  go_wp2_with fail
  generalize w2.setCell ⟨s, 3, none⟩ (.slice A2 ws0.length cap2) = w3 at *
  go_loopg [6, 7] n (fun k _ _ wr => ∃ (o' : Own) (V1 : Int → Bool) (us : List Int) (vu : Value), Fr 60 64 o o' w wr ∧ TwX o' wr s p (fi V1) (Hf V1) us bi bh vu ∧ Rc S V1 us V' k ∧ (∀ j ∈ us, 0 ≤ j ∧ j < KB) ∧ k ≤ n)
  case atStart => exact ⟨o2, V, ws0, _, HF3.out, HX3.out, HD.out, HK.out.1, Nat.le_refl _⟩
  case round =>
    obtain ⟨oi, V1, us, vu, Fi, Xi, Di, hki, hkn⟩ := hrel
    obtain ⟨Au, cu, hvu, _⟩ := Xi.work.rd
    subst hvu
    have c3 := Xi.blk.cell 3
    have c0 := Xi.blk.cell 0
    simp only [List.getElem?_toArray, List.getElem?_cons_zero, List.getElem?_cons_succ] at c3 c0
    have hpl := Xi.blk.lt
    have hdl := Di.len
    rcases Di.inv with ⟨rfl, rfl, hk0⟩ | ⟨us, y, m, rfl, hkm, hcase⟩
    · have HFi := Lib.hid Fi
      have HXi := Lib.hid Xi
      clear Fi Xi Di hki hk0 hkn hdl
      go_wp2_with fail
      go_end0
      exact ⟨rfl, oi, HFi.out, _, HXi.out⟩
    · have hll : (us ++ [y]).length = us.length + 1 := by simp
      obtain ⟨hy0, hy1⟩ := hki y (by simp)
      have hkus : ∀ j ∈ us, 0 ≤ j ∧ j < KB := fun j hj => hki j (by simp [hj])
      obtain ⟨g1, hAu, hgl, hcy, _, _⟩ := Xi.work.at_ (i := us.length) (by rw [hll]; omega)
      subst hAu
      have hyy : (us ++ [y]).getD us.length 0 = y := by simp [List.getD]
      rw [hyy] at hcy
      have hcu := Xi.work.capn
      rw [hll] at hcu hdl
      have hul : (us.length : Int) + 1 ≤ 1000000 := by have := HK.out.2.2; omega
      have hu0 : (0 : Int) ≤ (us.length : Int) := by omega
      have hu1 : (us.length : Int) < (us.length : Int) + 1 := by omega
      have hu2 : (us.length : Int) ≤ (cu : Int) := by omega
      have hu3 : (0 : Int) < (us.length : Int) + 1 := by omega
      have f3 := Xi.blk.free 3
      have hs60 := Xi.blk.1
      have G4 : Fr 60 61 oi oi wr (wr.setCell ⟨s, 3, none⟩ (.slice (some ⟨g1, 0, none⟩) us.length cu)) := (Fr.refl Fi.fresh).setCell _ _ (.inl ⟨by simp only [hs60]; omega, by simp only [hs60]; omega⟩)
      have X4 : TwX oi (wr.setCell ⟨s, 3, none⟩ (.slice (some ⟨g1, 0, none⟩) us.length cu)) s p (fi V1) (Hf V1) us bi bh (.slice (some ⟨g1, 0, none⟩) us.length cu) := ⟨Xi.blk.set 3 _, Xi.ins.keep G4 (.inr (by omega)), Xi.held.keep G4 (.inr (by omega)), by
        have h1 := (Xi.work.take (m := us.length) (by rw [hll]; omega)).keep G4 (.inr (by omega))
        rw [List.take_left' rfl] at h1
        exact h1⟩
      have HF4 := Lib.hid (Fi.trans (G4.mono (lo' := 60) (hi' := 64) (by omega) (by omega)))
      have HX4 := Lib.hid X4
      have HKU := Lib.hid (And.intro hkus (And.intro hy0 hy1))
      have HM4 := Lib.hid (And.intro hkm hkn)
      have HCs := Lib.hid hcase
      have hll2 : ((us ++ [y]).length : Int) = (us.length : Int) + 1 := by rw [hll]; rfl
      rw [hll] at c3
      clear Xi Di hki hkn hkm hcase X4 G4 hkus hyy hs60 hdl hll2
      go_wp2_with fail
      generalize wr.setCell ⟨s, 3, none⟩ (.slice (some ⟨g1, 0, none⟩) us.length cu) = w4 at *
      clear c0 c3 hpl hgl hcy f3 hcu hul hu0 hu1 hu2 hu3
      have HE4 := Lib.hid (HE.out.keep HF4.out (.inl (by omega)))
      have HKi := Lib.hid (rkind y w4 HF4.out.fresh HE4.out)
      go_at_call 33
      refine HKi.out.mono ?_
      rintro e w5 ⟨rfl, hb5⟩
      have F5 : Fr 0 0 oi oi w4 w5 := (Fr.refl HF4.out.fresh).below hb5
      have HF5 := Lib.hid (HF4.out.trans (F5.none 60 64))
      have HX5 := Lib.hid (HX4.out.keep F5 (.inr (by omega)))
      have HE5 := Lib.hid (HE4.out.keep F5 (.inr (by omega)))
      clear F5 hb5
      rcases HCs.out with ⟨hno, hD⟩ | ⟨⟨x, hx⟩, hv, hD⟩ | ⟨⟨x, hx⟩, hv, hD⟩
      · have hk0 : kindA S y = 0 := by unfold kindA; rw [hno]
        rw [hk0]
        have HDn := Lib.hid hD
        clear hD hno hk0
        go_wp2_with fail
        go_roundg m
        case measure => have := HM4.out; omega
        case rel => exact ⟨oi, V1, us, _, HF5.out, HX5.out, HDn.out, HKU.out.1, by have := HM4.out; omega⟩
      · obtain ⟨q, hq⟩ : ∃ q : Int, q = (kindA S y : Nat) := ⟨_, rfl⟩
        have hq0 : (q != 0) = true := bne_iff_ne.2 (by
          have h1 := HE5.out.kind hx
          rw [kindA_of hx] at hq
          omega)
        rw [← hq]
        have HDn := Lib.hid hD
        have HCa := Lib.hid (HM.out.call V1 us _ y oi w5 HF5.out.fresh HX5.out HKU.out.2.1 HKU.out.2.2)
        rw [hv, updS_same hv] at HCa
        clear hD hx hv hq
        go_wp2_with fail
        refine HCa.out.mono ?_
        rintro e w6 ⟨rfl, o6, F6, X6⟩
        have HF6 := Lib.hid (HF5.out.trans (F6.mono (by omega) (by omega)))
        have HX6 := Lib.hid X6
        clear F6 X6
        go_wp2_with fail
        go_roundg m
        case measure => have := HM4.out; omega
        case rel => exact ⟨o6, V1, us, _, HF6.out, HX6.out, HDn.out, HKU.out.1, by have := HM4.out; omega⟩
      · obtain ⟨q, hq⟩ : ∃ q : Int, q = (kindA S y : Nat) := ⟨_, rfl⟩
        have hq0 : (q != 0) = true := bne_iff_ne.2 (by
          have h1 := HE5.out.kind hx
          rw [kindA_of hx] at hq
          omega)
        rw [← hq]
        have HDn := Lib.hid hD
        have HCa := Lib.hid (HM.out.call V1 us _ y oi w5 HF5.out.fresh HX5.out HKU.out.2.1 HKU.out.2.2)
        rw [hv] at HCa
        clear hD hx hv hq
        go_wp2_with fail
        refine HCa.out.mono ?_
        rintro e w6 ⟨rfl, o6, F6, X6⟩
        have HF6 := Lib.hid (HF5.out.trans (F6.mono (lo' := 60) (hi' := 64) (by omega) (by omega)))
        have HX6 := Lib.hid X6
        have HE6 := Lib.hid (HE5.out.keep F6 (.inl (by omega)))
        have c06 := X6.blk.cell 0
        have c36 := X6.blk.cell 3
        simp only [List.getElem?_toArray, List.getElem?_cons_zero, List.getElem?_cons_succ] at c06 c36
        have f36 := X6.blk.free 3
        have hpl6 := X6.blk.lt
        have HRf := Lib.hid (fun (w7 : World) (F : Fr 0 0 o6 o6 w6 w7) => rrefs y w7 (by omega) F.fresh (HE6.out.keep F (.inr (by omega))))
        clear F6 X6
        go_wp2_with fail
        have hlm := HDn.out.len
        rw [List.length_append] at hlm
        have HLm := Lib.hid (show us.length + (refsA S y).length < 1000000 by have := HM4.out; have := HK.out.2.2; omega)
        clear hlm
        go_region_law (first
          | (refine step_append_row w7 rfl _ _ 38 rfl Tryz.underlying38 (own := o6) HX7.out.1.fresh 63 rfl HX7.out.2.work rfl HR7.out (by have := HLm.out; omega) ?_; intro v8 w8 o8 F8 R8; obtain ⟨A8, c8, hv8, _⟩ := R8.rd; rw [List.length_append] at hv8; subst hv8; have HX8 := Lib.hid (And.intro (HX7.out.1.trans (F8.mono (lo' := 60) (hi' := 64) (by omega) (by omega))) (And.intro (HX7.out.2.blk.keep F8 (.inl (by omega))) (And.intro (HX7.out.2.ins.keep F8 (.inl (by omega))) (And.intro (HX7.out.2.held.keep F8 (.inl (by omega))) R8)))); have c38 := HX8.out.2.1.cell 3; have f38 := HX8.out.2.1.free 3; have hpl8 := HX8.out.2.1.lt; clear F8 R8; simp only [List.getElem?_toArray, List.getElem?_cons_zero, List.getElem?_cons_succ] at c38)
          | (go_simp; go_at_call 38; refine (HRf.out _ (by repeat (first | exact Fr.refl HF6.out.fresh | refine Fr.drew ?_ | refine Fr.alloc ?_ _))).mono ?_; rintro e w7 ⟨v7, rfl, F7, R7⟩; obtain ⟨A7, c7, hv7, rd7⟩ := R7.row.rd; subst hv7; have HR7 := Lib.hid rd7; have F67 : Fr 0 0 o6 o6 w6 w7 := (Fr.drew (Fr.refl HF6.out.fresh)).trans F7; have HX7 := Lib.hid (show Fr 60 64 o6 o6 w6 w7 ∧ TwX o6 w7 s p (fi (updS V1 y true)) (Hf (updS V1 y true)) us bi bh (.slice (some ⟨g1, 0, none⟩) us.length cu) from ⟨F67.none 60 64, HX6.out.keep F67 (.inr (by omega))⟩); have c37 := F67.cell0 c36; clear F7 R7 rd7 F67))
        all_goals
          have hs8 := HX8.out.2.1.1
          have G9 : Fr 60 61 o8 o8 w8 (w8.setCell ⟨s, 3, none⟩ (.slice A8 (us.length + (refsA S y).length) c8)) := (Fr.refl HX8.out.1.fresh).setCell _ _ (.inl ⟨by simp only [hs8]; omega, by simp only [hs8]; omega⟩)
          have X9 : TwX o8 (w8.setCell ⟨s, 3, none⟩ (.slice A8 (us.length + (refsA S y).length) c8)) s p (fi (updS V1 y true)) (Hf (updS V1 y true)) (us ++ refsA S y) bi bh (.slice A8 (us.length + (refsA S y).length) c8) := ⟨HX8.out.2.1.set 3 _, HX8.out.2.2.1.keep G9 (.inr (by omega)), HX8.out.2.2.2.1.keep G9 (.inr (by omega)), HX8.out.2.2.2.2.keep G9 (.inr (by omega))⟩
          have HF9 := Lib.hid ((HF6.out.trans HX8.out.1).trans (G9.mono (lo' := 60) (hi' := 64) (by omega) (by omega)))
          have HX9 := Lib.hid X9
          clear G9 X9 hs8
          generalize w8.setCell ⟨s, 3, none⟩ (.slice A8 (us.length + (refsA S y).length) c8) = w9 at *
          go_wp2_with fail
          go_roundg m
          case measure => have := HM4.out; omega
          case rel => exact ⟨o8, _, us ++ refsA S y, _, HF9.out, HX9.out, HDn.out, fun j hj => (List.mem_append.1 hj).elim (HKU.out.1 j) (HK.out.2.1 y j), by have := HM4.out; omega⟩
theorem met_span (s p bi bh : Nat) (H : Int → Bool) : MetF 142 s p bi bh (fun V => inM V fun _ => 0) (fun _ => H) :=
  ⟨fun V ws vw h o w ho X h0 h1 => tspan h w ho X h0 h1, fun args w => by kernel_rfl⟩
theorem met_hold (s p bi bh : Nat) (fi : Int → Option Value) : MetF 146 s p bi bh (fun _ => fi) (fun V => V) :=
  ⟨fun V ws vw h o w ho X h0 h1 => thold h w ho X h0 h1, fun args w => by kernel_rfl⟩
end Go.Proofs.YtlpklloagaccoaaGreat
