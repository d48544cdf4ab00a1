/- The sets of numbers of which the least goes first (least): Has, Drop, Push, New. Conditions: numbers that are places of words. The sets of numbers of which the least goes first (least): the row's frame, Push, New. The sets of numbers of which the least goes first (least): Push. -/
import Derived.Test.YtlpklloagaccoaaGreatHeapPop
import Derived.Maps.OwnIn
import Derived.Maps.OwnOps
namespace Go.Proofs.YtlpklloagaccoaaGreat
open Go.RowKit
set_option linter.unusedVariables false

theorem zero_boolL (w : World) : (zeroValue 4).run Tryz.prog w = .ok (.bool false) w := by kernel_rfl

/-- A set: its block, its row, its map. -/
structure Least (o : Own) (w : World) (r p : Nat) (S : Int → Bool) (v : Value) (xs : List Int) (b : Nat) (f : Int → Option Value) : Prop where
  blk : Blk o w r p (.cells #[v, .map (some b)] 157 (0, 0))
  row : Row w v xs
  own : ∀ g, v.ownBlock = some g → o g = r + 1
  map : MapBlk o w (r + 2) b f
  is : ∀ k, (f k).getD (.bool false) = .bool (S k)
  mem : ∀ k, (f k).isSome = true ↔ k ∈ xs
  nd : xs.Nodup
  rng : ∀ x ∈ xs, 0 ≤ x ∧ x < KB
def LeastRep (o : Own) (w : World) (r p : Nat) (S : Int → Bool) : Prop := ∃ v xs b f, Least o w r p S v xs b f
theorem Row.keep {lo hi r : Nat} {o o' : Own} {w w' : World} {v : Value} {xs : List Int} (h : Row w v xs) (hw : ∀ g, v.ownBlock = some g → o g = r) (k : Fr lo hi o o' w w') (hr : r < lo ∨ hi ≤ r) : Row w' v xs ∧ ∀ g, v.ownBlock = some g → o' g = r := by
  rcases h.form with ⟨rfl, rfl⟩ | ⟨g, cap, rfl, R⟩
  · exact ⟨Row.nil _, fun g hg => by cases hg⟩
  · have hg := hw g rfl
    exact ⟨(R.of_eq (k.block g R.lt (by rw [hg]; exact hr))).row, fun g' hg' => by
      simp only [Value.ownBlock, Option.some.injEq] at hg'
      subst hg'
      exact (k.own g R.lt).trans hg⟩
theorem Least.keep {lo hi : Nat} {o o' : Own} {w w' : World} {r p : Nat} {S : Int → Bool} {v : Value} {xs : List Int} {b : Nat} {f : Int → Option Value} (h : Least o w r p S v xs b f) (k : Fr lo hi o o' w w') (hr : r + 3 ≤ lo ∨ hi ≤ r) : Least o' w' r p S v xs b f :=
  let R := h.row.keep h.own k (by omega)
  ⟨h.blk.keep k (by omega), R.1, R.2, h.map.keep k (by omega), h.is, h.mem, h.nd, h.rng⟩
theorem LeastRep.keep {lo hi : Nat} {o o' : Own} {w w' : World} {r p : Nat} {S : Int → Bool} (h : LeastRep o w r p S) (k : Fr lo hi o o' w w') (hr : r + 3 ≤ lo ∨ hi ≤ r) : LeastRep o' w' r p S :=
  let ⟨v, xs, b, f, s⟩ := h; ⟨v, xs, b, f, s.keep k hr⟩
theorem nodup_len {xs : List Int} (h : xs.Nodup) (hr : ∀ x ∈ xs, 0 ≤ x ∧ x < KB) : xs.length ≤ 1048576 := by
  have h1 : (xs.map Int.toNat).Nodup := by
    refine List.pairwise_map.2 (List.Pairwise.imp_of_mem ?_ h)
    intro a b ha hb hab e
    have := hr a ha; have := hr b hb
    omega
  have h2 : xs.map Int.toNat ⊆ List.range 1048576 := by
    intro n hn
    obtain ⟨x, hx, rfl⟩ := List.mem_map.1 hn
    have := hr x hx
    simp only [List.mem_range]
    simp only [KB] at this
    omega
  have := h1.length_le_of_subset h2
  simpa using this

theorem has_any {o : Own} {r p : Nat} {S : Int → Bool} (n : Int) (w : World) (L : LeastRep o w r p S) :
    Calls Tryz.prog 174 #[.pointer (some ⟨p, 0, none⟩), .int .i64 n] w fun e w' => e = .returned (.bool (S n)) ∧ w = w' := by
  obtain ⟨v, xs, b, f, L⟩ := L
  have hl : (Instr.lookup 100 (.map (some b)) (.int .i64 n) false).run Tryz.prog w = .ok (.bool (S n)) w := by
    rw [MapIs.lookup L.map.2 Tryz.underlying100 Tryz.underlying3 zero_boolL false n]; simp [L.is]
  have c1 := L.blk.cell 1
  simp only [List.getElem?_toArray, List.getElem?_cons_zero, List.getElem?_cons_succ] at c1
  go_enter Tryz.func174, Tryz.ntmps174
  go_wp2
  go_ret
  exact ⟨rfl, rfl⟩

/-- Behind a call on the set. -/
def LeastPost (o : Own) (w : World) (r p : Nat) (v : Value) (S : Int → Bool) (e : Ending) (w' : World) : Prop :=
  e = .returned v ∧ ∃ o', Fr r (r + 3) o o' w w' ∧ LeastRep o' w' r p S
def updS (f : Int → Bool) (k : Int) (v : Bool) : Int → Bool := fun j => if j = k then v else f j

set_option maxHeartbeats 400000 in
theorem drop_any {o : Own} {r p : Nat} {S : Int → Bool} (n : Int) (w : World) (ho : Owned o w) (L : LeastRep o w r p S) (k0 : 0 ≤ n) (k1 : n < KB) :
    Calls Tryz.prog 129 #[.pointer (some ⟨p, 0, none⟩), .int .i64 n] w (LeastPost o w r p (.bool (S n)) (updS S n false)) := by
  have L0 := L
  obtain ⟨v, xs, b, f, L⟩ := L
  have hl : (Instr.lookup 100 (.map (some b)) (.int .i64 n) false).run Tryz.prog w = .ok (.bool (S n)) w := by
    rw [MapIs.lookup L.map.2 Tryz.underlying100 Tryz.underlying3 zero_boolL false n]; simp [L.is]
  have c1 := L.blk.cell 1
  simp only [List.getElem?_toArray, List.getElem?_cons_zero, List.getElem?_cons_succ] at c1
  cases hs : S n with
  | false =>
    rw [hs] at hl
    have HS := Lib.hid hs
    clear hs
    go_enter Tryz.func129, Tryz.ntmps129
    go_wp2
    go_ret
    refine ⟨rfl, o, Fr.refl ho, ?_⟩
    have e1 : updS S n false = S := by funext k; unfold updS; split <;> simp_all [HS.out]
    rw [e1]; exact L0
  | true =>
    rw [hs] at hl
    have HS := Lib.hid hs
    clear hs
    go_enter Tryz.func129, Tryz.ntmps129
    go_wp2_with (at_mapUpdate; refine wpList_mapUpdate_is _ rfl _ _ _ 100 rfl 3 4 Tryz.underlying100 Tryz.underlying3 b f (by exact L.map.2) rfl n rfl k0 k1 _ rfl ?_; intro w2 hm2 ht2)
    go_ret
    have hpb : p ≠ b := fun e => by have := L.blk.2; subst e; obtain ⟨es, cl, hb, _⟩ := L.map.2; rw [hb] at this; cases this
    have hnx : n ∈ xs := (L.mem n).1 (by
      have := L.is n
      rw [HS.out] at this
      cases hf : f n with
      | none => rw [hf] at this; simp at this
      | some _ => rfl)
    refine ⟨rfl, o, ht2.fr ho (by rw [L.map.1]; omega), v, xs, b, _, L.blk.of_eq (ht2.block _ hpb), ?_, L.own, ⟨L.map.1, hm2⟩, fun k => by unfold updS; split <;> first | rfl | exact L.is k | simp_all, fun k => ?_, L.nd, L.rng⟩
    · rcases L.row.form with ⟨h1, h2⟩ | ⟨g, cap, h1, R⟩
      · rw [h1, h2]; exact Row.nil _
      · have hgb : g ≠ b := fun e => by
          have e1 := L.own g (by rw [h1]; rfl); have e2 := L.map.1; rw [e] at e1; omega
        have := (R.of_eq (ht2.block _ hgb)).row
        rw [h1]; exact this
    · by_cases hk : k = n
      · subst hk; simp [hnx]
      · simp [hk, L.mem]
end Go.Proofs.YtlpklloagaccoaaGreat
namespace Go.Proofs.YtlpklloagaccoaaGreat
open Go.RowKit
set_option linter.unusedVariables false

theorem RowPost.fr {o : Own} {w w' : World} {r p off : Nat} {cs : Array Value} {T : TypeId} {v : Value} {ys : List Int} (ho : Owned o w) (hp : o p = r) (hpl : p < w.heap.size) (hv : ∀ g, v.ownBlock = some g → o g = r + 1) (h : RowPost w p off cs T v ys w') :
    ∃ o' g cap, Fr r (r + 3) o o' w w' ∧ Blk o' w' r p (.cells (cs.setIfInBounds off (.slice (some ⟨g, 0, none⟩) ys.length cap)) T (0, 0)) ∧ RowB w' g cap ys ∧ o' g = r + 1 ∧ (∀ b, b < w.heap.size → b ≠ p → o b ≠ r + 1 → w'.heap[b]? = w.heap[b]? ∧ o' b = o b) := by
  obtain ⟨g, cap, h1, h2, h3, h4, hf⟩ := h
  have hb : ∀ b, b < w.heap.size → b ≠ p → o b ≠ r + 1 → w'.heap[b]? = w.heap[b]? := fun b hb hne ho' => hf.block b hb hne (fun e => ho' (hv b e.symm))
  have hb2 : ∀ b, b < w.heap.size → (o b < r ∨ r + 3 ≤ o b) → w'.heap[b]? = w.heap[b]? := fun b hbl hr => hb b hbl (fun e => by subst e; omega) (by omega)
  rcases h3 with h3 | h3
  · exact ⟨o, g, cap, ⟨hf.os, hf.tape, hf.output, hf.size, hb2, fun _ _ => rfl, fun b hbb => ho b (Nat.le_trans hf.size hbb)⟩, ⟨hp, h1⟩, h2, hv g h3, fun b h5 h6 h7 => ⟨hb b h5 h6 h7, rfl⟩⟩
  · have hg := h2.lt
    have hoth : ∀ b, b < w.heap.size → (o.give g (r + 1)) b = o b := fun b hbb => by unfold Own.give; rw [if_neg (by omega)]
    exact ⟨o.give g (r + 1), g, cap, ⟨hf.os, hf.tape, hf.output, hf.size, hb2, hoth, fun b hbb => by
      unfold Own.give; rw [if_neg (by omega)]; exact ho b (Nat.le_trans hf.size hbb)⟩, ⟨(hoth p hpl).trans hp, h1⟩, h2, by simp [Own.give], fun b h5 h6 h7 => ⟨hb b h5 h6 h7, hoth b h5⟩⟩
def LeastNew (o : Own) (w : World) (r : Nat) (e : Ending) (w' : World) : Prop :=
  ∃ p o', e = .returned (.pointer (some ⟨p, 0, none⟩)) ∧ Fr r (r + 3) o o' w w' ∧ LeastRep o' w' r p (fun _ => false)
theorem least_made {o : Own} {w : World} (ho : Owned o w) (r : Nat) :
    LeastNew o w r (.returned (.pointer (some ⟨w.heap.size + 1, 0, none⟩))) ((w.alloc (.map #[] 0)).alloc (.cells #[.slice none 0 0, .map (some w.heap.size)] 157)) := by
  have F1 := (Fr.refl (lo := r) (hi := r + 3) ho).give (.map #[] 0) (r + 2)
  have M1 : MapBlk _ _ _ _ _ := MapBlk.new (o := o) (w := w) (r + 2)
  have F2 := F1.give (.cells #[.slice none 0 0, .map (some w.heap.size)] 157) r
  have F2' := (Fr.refl (lo := 0) (hi := 0) F1.fresh).give (.cells #[.slice none 0 0, .map (some w.heap.size)] 157) r
  have B := Blk.new (o := o.give w.heap.size (r + 2)) (w := w.alloc (.map #[] 0)) (.cells #[.slice none 0 0, .map (some w.heap.size)] 157) r
  have N1 := M1.keep F2' (.inr (Nat.zero_le _))
  simp only [World.size_alloc] at *
  exact ⟨_, _, rfl, F2, _, [], _, _, B, Row.nil _, fun g h => (by cases h), N1, fun _ => rfl, fun _ => (by simp), List.nodup_nil, fun _ h => (by cases h)⟩
theorem least_new {o : Own} (r : Nat) (w : World) (ho : Owned o w) : Calls Tryz.prog 88 #[] w (LeastNew o w r) := by
  have hmm := @run_makeMap Tryz.prog
  have H := Lib.hid (least_made (w := w) ho r)
  go_enter Tryz.func88, Tryz.ntmps88
  go_wp2
  go_ret
  exact H.out
end Go.Proofs.YtlpklloagaccoaaGreat
namespace Go.Proofs.YtlpklloagaccoaaGreat
open Go.RowKit
set_option linter.unusedVariables false

set_option maxRecDepth 100000 in
set_option maxHeartbeats 400000 in
theorem lpush_new {o : Own} {r p b : Nat} {S : Int → Bool} {v : Value} {xs : List Int} {f : Int → Option Value} (n : Int) (w : World) (ho : Owned o w) (L : Least o w r p S v xs b f) (k0 : 0 ≤ n) (k1 : n < KB) (hs : S n = false) (hf : (f n).isSome = false) :
    Calls Tryz.prog 116 #[.pointer (some ⟨p, 0, none⟩), .int .i64 n] w (LeastPost o w r p (.bool true) (updS S n true)) := by
  have hnot : ∀ (x : Bool) (w : World), (Op.unary .not (.bool x)).run Tryz.prog w = .ok (.bool (!x)) w := fun _ _ => rfl
  have hl : (Instr.lookup 100 (.map (some b)) (.int .i64 n) true).run Tryz.prog w = .ok (.tuple #[.bool false, .bool false]) w := by
    rw [MapIs.lookup L.map.2 Tryz.underlying100 Tryz.underlying3 zero_boolL true n]; simp [L.is, hs, hf]
  have c1 := L.blk.cell 1
  simp only [List.getElem?_toArray, List.getElem?_cons_zero, List.getElem?_cons_succ] at c1
  have hpb : p ≠ b := fun e => by have := L.blk.2; subst e; obtain ⟨es, cl, hb, _⟩ := L.map.2; rw [hb] at this; cases this
  have HL := Lib.hid L
  have HPB := Lib.hid hpb
  clear L hpb
  go_enter Tryz.func116, Tryz.ntmps116
  go_wp2_with (at_mapUpdate; refine wpList_mapUpdate_is _ rfl _ _ _ 100 rfl 3 4 Tryz.underlying100 Tryz.underlying3 b f (by exact HL.out.map.2) rfl n rfl k0 k1 _ rfl ?_; intro w2 hm2 ht2)
  have hl := HL.out
  have hob := hl.map.1
  have hop := hl.blk.1
  have ht := ht2
  have hnx : n ∉ xs := fun h => by have := (hl.mem n).2 h; simp [hf] at this
  have hF := ht.fr (lo := r) (hi := r + 3) ho (by omega)
  have hb2 : w2.heap[p]? = some (.cells #[v, .map (some b)] 157 (0, 0)) := (ht.block p HPB.out).trans hl.blk.2
  have hne : v.ownBlock ≠ some p := fun e => by have := hl.own p e; omega
  have hR : Row w2 v xs := by
    rcases hl.row.form with ⟨h1, h2⟩ | ⟨g, cap, h1, R⟩
    · rw [h1, h2]; exact Row.nil _
    · have hgb : g ≠ b := fun e => by have e1 := hl.own g (by rw [h1]; rfl); rw [e] at e1; omega
      rw [h1]; exact (R.of_eq (ht.block _ hgb)).row
  have hlen := nodup_len hl.nd hl.rng
  have HC := Lib.hid (heap_push n w2 hb2 (off := 0) rfl hR hne (by omega))
  have HF := Lib.hid hF
  have HM := Lib.hid hm2
  have HT := Lib.hid ht2
  have HN := Lib.hid hnx
  clear hl hob hop ht hF hb2 hne hR hlen hm2 ht2 hnx
  go_at_call 173
  refine HC.out.mono ?_
  rintro e w3 ⟨rfl, ys, hperm, _, hrp⟩
  have HRP := Lib.hid hrp
  have HPE := Lib.hid hperm
  clear hrp hperm
  go_wp2_with fail
  go_ret
  obtain ⟨o', g, cap, F2, B2, R2, hog, hoth⟩ := HRP.out.fr HF.out.fresh HL.out.blk.1 (lt_of_block ((HT.out.block p HPB.out).trans HL.out.blk.2)) HL.out.own
  obtain ⟨m1, m2⟩ := hoth b HM.out.lt (fun e => HPB.out e.symm) (by rw [HL.out.map.1]; omega)
  have hmem : ∀ k, k ∈ ys ↔ k ∈ xs ∨ k = n := fun k => by rw [HPE.out.mem_iff]; simp
  refine ⟨rfl, o', HF.out.trans F2, _, ys, b, _, B2, R2.row, fun g' hg' => ?_, ⟨m2.trans HL.out.map.1, HM.out.of_eq m1⟩, fun k => ?_, fun k => ?_, ?_, fun x hx => ?_⟩
  · simp only [Value.ownBlock, Option.some.injEq] at hg'
    subst hg'; exact hog
  · unfold updS
    split
    · rfl
    · exact HL.out.is k
  · by_cases hk : k = n
    · subst hk; simp [hmem]
    · simp [hk, hmem, HL.out.mem]
  · refine HPE.out.nodup_iff.2 (List.nodup_append.2 ⟨HL.out.nd, by simp, fun a ha c hc => ?_⟩)
    simp at hc; subst hc
    exact fun e => HN.out (e ▸ ha)
  · rcases (hmem x).1 hx with h | rfl
    · exact HL.out.rng x h
    · exact ⟨k0, k1⟩
theorem updS_same {S : Int → Bool} {n : Int} {b : Bool} (h : S n = b) : updS S n b = S := by
  funext k; unfold updS; split
  · rename_i e; rw [e, h]
  · rfl
set_option maxRecDepth 100000 in
theorem lpush_there {o : Own} {r p b : Nat} {S : Int → Bool} {v : Value} {xs : List Int} {f : Int → Option Value} (n : Int) (w : World) (ho : Owned o w) (L : Least o w r p S v xs b f) (hs : S n = true) :
    Calls Tryz.prog 116 #[.pointer (some ⟨p, 0, none⟩), .int .i64 n] w (LeastPost o w r p (.bool false) (updS S n true)) := by
  obtain ⟨st, hst⟩ : ∃ st, st = (f n).isSome := ⟨_, rfl⟩
  have hl : (Instr.lookup 100 (.map (some b)) (.int .i64 n) true).run Tryz.prog w = .ok (.tuple #[.bool true, .bool st]) w := by
    rw [MapIs.lookup L.map.2 Tryz.underlying100 Tryz.underlying3 zero_boolL true n]; simp [L.is, hs, hst]
  have c1 := L.blk.cell 1
  simp only [List.getElem?_toArray, List.getElem?_cons_zero, List.getElem?_cons_succ] at c1
  have HL := Lib.hid L
  have HS := Lib.hid (updS_same hs)
  clear L hst hs
  go_enter Tryz.func116, Tryz.ntmps116
  go_wp2_with fail
  go_ret
  exact ⟨rfl, o, Fr.refl ho, by rw [HS.out]; exact ⟨_, _, _, _, HL.out⟩⟩
set_option maxRecDepth 100000 in
set_option maxHeartbeats 400000 in
theorem lpush_stands {o : Own} {r p b : Nat} {S : Int → Bool} {v : Value} {xs : List Int} {f : Int → Option Value} (n : Int) (w : World) (ho : Owned o w) (L : Least o w r p S v xs b f) (k0 : 0 ≤ n) (k1 : n < KB) (hs : S n = false) (hf : (f n).isSome = true) :
    Calls Tryz.prog 116 #[.pointer (some ⟨p, 0, none⟩), .int .i64 n] w (LeastPost o w r p (.bool true) (updS S n true)) := by
  have hnot : ∀ (x : Bool) (w : World), (Op.unary .not (.bool x)).run Tryz.prog w = .ok (.bool (!x)) w := fun _ _ => rfl
  have hl : (Instr.lookup 100 (.map (some b)) (.int .i64 n) true).run Tryz.prog w = .ok (.tuple #[.bool false, .bool true]) w := by
    rw [MapIs.lookup L.map.2 Tryz.underlying100 Tryz.underlying3 zero_boolL true n]; simp [L.is, hs, hf]
  have c1 := L.blk.cell 1
  simp only [List.getElem?_toArray, List.getElem?_cons_zero, List.getElem?_cons_succ] at c1
  have hpb : p ≠ b := fun e => by have := L.blk.2; subst e; obtain ⟨es, cl, hb, _⟩ := L.map.2; rw [hb] at this; cases this
  have hnx := Lib.hid ((L.mem n).1 hf)
  have HL := Lib.hid L
  have HPB := Lib.hid hpb
  clear L hpb
  go_enter Tryz.func116, Tryz.ntmps116
  go_wp2_with (at_mapUpdate; refine wpList_mapUpdate_is _ rfl _ _ _ 100 rfl 3 4 Tryz.underlying100 Tryz.underlying3 b f (by exact HL.out.map.2) rfl n rfl k0 k1 _ rfl ?_; intro w2 hm2 ht2)
  go_ret
  refine ⟨rfl, o, ht2.fr ho (by rw [HL.out.map.1]; omega), v, xs, b, _, HL.out.blk.of_eq (ht2.block _ HPB.out), ?_, HL.out.own, ⟨HL.out.map.1, hm2⟩, fun k => (by unfold updS; split <;> first | rfl | exact HL.out.is k), fun k => ?_, HL.out.nd, HL.out.rng⟩
  · rcases HL.out.row.form with ⟨h1, h2⟩ | ⟨g, cap, h1, R⟩
    · rw [h1, h2]; exact Row.nil _
    · have hgb : g ≠ b := fun e => by
        have e1 := HL.out.own g (by rw [h1]; rfl); have e2 := HL.out.map.1; rw [e] at e1; omega
      rw [h1]; exact (R.of_eq (ht2.block _ hgb)).row
  · by_cases hk : k = n
    · subst hk; simp [hnx.out]
    · simp [hk, HL.out.mem]
theorem lpush_any {o : Own} {r p : Nat} {S : Int → Bool} (n : Int) (w : World) (ho : Owned o w) (L : LeastRep o w r p S) (k0 : 0 ≤ n) (k1 : n < KB) :
    Calls Tryz.prog 116 #[.pointer (some ⟨p, 0, none⟩), .int .i64 n] w (LeastPost o w r p (.bool (!S n)) (updS S n true)) := by
  obtain ⟨v, xs, b, f, L⟩ := L
  cases hs : S n with
  | true => exact lpush_there n w ho L hs
  | false =>
    cases hf : (f n).isSome with
    | true => exact lpush_stands n w ho L k0 k1 hs hf
    | false => exact lpush_new n w ho L k0 k1 hs hf
end Go.Proofs.YtlpklloagaccoaaGreat
