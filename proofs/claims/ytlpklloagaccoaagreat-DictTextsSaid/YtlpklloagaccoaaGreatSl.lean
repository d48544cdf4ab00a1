/- Words for the laws' own walks: slices that came in, rows of the walk's own, the frame over them; append. No condition. -/
import Derived.Test.YtlpklloagaccoaaGreatSpec
import Derived.Maps.AppendAt
import Derived.OwnWalk
namespace Go.Proofs.YtlpklloagaccoaaGreat
open Go.RowKit
set_option linter.unusedVariables false

/-- All that is there at first is nobody's to write. -/
def Own.base (w : World) : Own := fun b => if b < w.heap.size then 99 else 0
theorem Own.base_owned (w : World) : Owned (Own.base w) w := fun b hb => if_neg (by omega)
/-- From a law's first world on: nothing that was there has turned. -/
def LF (w : World) (o : Own) (w' : World) : Prop := Fr 0 99 (Own.base w) o w w'
section
variable {w w1 w2 : World} {o o1 o2 : Own}
theorem LF.start (w : World) : LF w (Own.base w) w := Fr.refl (Own.base_owned w)
theorem LF.of_below (h : Below w.heap.size w w1) : LF w (Own.base w) w1 := Fr.of_below (Own.base_owned w) h
theorem LF.tob (h : LF w o w1) : Below w.heap.size w w1 :=
  ⟨h.os, h.tape, h.output, h.size, fun b hb => h.block b hb (.inr (by unfold Own.base; rw [if_pos hb]; exact Nat.le_refl _))⟩
theorem LF.fr {lo hi : Nat} (h : LF w o1 w1) (k : Fr lo hi o1 o2 w1 w2) (hh : hi ≤ 99) : LF w o2 w2 := h.trans (k.mono (Nat.zero_le _) hh)
theorem LF.below (h : LF w o1 w1) (k : Below w1.heap.size w1 w2) : LF w o1 w2 := Fr.below h k
theorem LF.drew (h : LF w o w1) : LF w o w1.drew := Fr.drew h
theorem LF.drewN (h : LF w o w1) (n : Nat) : LF w o (w1.drewN n) := Fr.drewN h n
theorem LF.alloc (h : LF w o w1) (x : Obj) : LF w o (w1.alloc x) := Fr.alloc h x
theorem LF.old (h : LF w o w1) {b : Nat} (hb : b < w.heap.size) : w1.heap[b]? = w.heap[b]? := h.tob.block b hb
end

/-- A mask of low bits. -/
theorem and_low (x : Int) (m : Nat) (hm : m < 9223372036854775808) : ∃ k : Nat, bits .and .i64 x (m : Int) = (k : Int) ∧ k ≤ m := by
  have h1 : (BitVec.ofInt 64 (m : Int)).toNat = m := by
    rw [BitVec.ofInt_natCast, BitVec.toNat_ofNat]; exact Nat.mod_eq_of_lt (by omega)
  have h2 : (BitVec.ofInt 64 x &&& BitVec.ofInt 64 (m : Int)).toNat ≤ m := by
    rw [BitVec.toNat_and, h1]; exact Nat.and_le_right
  refine ⟨(BitVec.ofInt 64 x &&& BitVec.ofInt 64 (m : Int)).toNat, ?_, h2⟩
  show IntKind.i64.wrap _ = _
  rw [IntKind.wrap_i64]
  show ((((BitVec.ofInt 64 x &&& BitVec.ofInt 64 (m : Int)).toNat : Int)) + 9223372036854775808) % 18446744073709551616 - 9223372036854775808 = _
  omega

/-! ### slices that came in -/
/-- A slice that came in. -/
def InSl (k : IntKind) (w : World) (a : Option Addr) (len cap : Nat) (zs : List Int) : Prop :=
  (a = none ∧ len = 0 ∧ cap = 0 ∧ zs = []) ∨
  ∃ x, a = some x ∧ len ≤ cap ∧ cap ≤ maxLen ∧ zs.length = cap ∧ (∀ i, i < zs.length → w.cell? (x.add i) = some (.int k (zs.getD i 0))) ∧ ∀ n ∈ zs, (Lit.int k n).wf = true
/-- What is read of a slice of numbers, below block B. -/
def RdS (w : World) (B : Nat) (k : IntKind) (A : Option Addr) (n : Nat) (l : List Int) : Prop :=
  l.length = n ∧ (0 < n → ∃ b off, A = some ⟨b, off, none⟩ ∧ b < B ∧ ∀ i, i < n → w.cell? ⟨b, off + i, none⟩ = some (.int k (l.getD i 0)))
theorem getD_take {l : List Int} {n i : Nat} (h : i < n) : (l.take n).getD i 0 = l.getD i 0 := by
  simp [List.getD, h]
theorem add_spot {b off : Nat} (i : Nat) : (⟨b, off, none⟩ : Addr).add i = ⟨b, off + i, none⟩ := by
  unfold Addr.add
  by_cases h : i = 0
  · subst h; simp
  · simp [h]
theorem InSl.rd {k : IntKind} {w : World} {a : Option Addr} {n cap : Nat} {zs : List Int} (h : InSl k w a n cap zs) : RdS w w.heap.size k a n (zs.take n) ∧ ∀ i, i < n → (Lit.int k ((zs.take n).getD i 0)).wf = true := by
  rcases h with ⟨rfl, rfl, rfl, rfl⟩ | ⟨x, rfl, hl, hm, hz, hc, hw⟩
  · exact ⟨⟨rfl, fun h => absurd h (by omega)⟩, fun i hi => absurd hi (by omega)⟩
  · refine ⟨⟨by rw [List.length_take]; omega, fun hn => ?_⟩, fun i hi => ?_⟩
    · obtain ⟨b, off, spot⟩ := x
      have hc0 := hc 0 (by omega)
      have hspot : spot = none := by simpa [Addr.add] using World.cell?_spot hc0
      subst hspot
      rw [add_spot] at hc0
      refine ⟨b, off, rfl, ?_, fun i hi => ?_⟩
      · refine Nat.lt_of_not_le fun hb => ?_
        simp [World.cell?, Array.getElem?_eq_none hb] at hc0
      · rw [← add_spot, hc i (by omega), getD_take hi]
    · rw [getD_take hi]
      refine hw _ ?_
      have hi2 : i < zs.length := by omega
      simp [List.getD, hi2]
theorem InSl.len_le {k : IntKind} {w : World} {a : Option Addr} {n cap : Nat} {zs : List Int} (h : InSl k w a n cap zs) : n ≤ maxLen := by
  rcases h with ⟨_, rfl, _, _⟩ | ⟨_, _, h1, h2, _⟩
  · exact Nat.zero_le _
  · exact Nat.le_trans h1 h2
theorem wf_i64 {n : Int} (h : (Lit.int .i64 n).wf = true) : -9223372036854775808 ≤ n ∧ n < 9223372036854775808 := by
  simp [Lit.wf, IntKind.min, IntKind.max, IntKind.signed, IntKind.bits] at h; omega
theorem wf_u8 {n : Int} (h : (Lit.int .u8 n).wf = true) : 0 ≤ n ∧ n < 256 := by
  simp [Lit.wf, IntKind.min, IntKind.max, IntKind.signed, IntKind.bits] at h; omega
section
variable {w w' : World} {B : Nat} {k : IntKind} {A : Option Addr} {n : Nat} {l : List Int}
theorem RdS.len (h : RdS w B k A n l) : l.length = n := h.1
theorem RdS.at_ (h : RdS w B k A n l) {i : Nat} (hi : i < n) : ∃ b off, A = some ⟨b, off, none⟩ ∧ b < B ∧ w.cell? ⟨b, off + i, none⟩ = some (.int k (l.getD i 0)) := by
  obtain ⟨b, off, h1, h2, h3⟩ := h.2 (by omega)
  exact ⟨b, off, h1, h2, h3 i hi⟩
theorem RdS.keep (h : RdS w B k A n l) (e : ∀ b, b < B → w'.heap[b]? = w.heap[b]?) : RdS w' B k A n l :=
  ⟨h.1, fun hn => by
    obtain ⟨b, off, h1, h2, h3⟩ := h.2 hn
    exact ⟨b, off, h1, h2, fun i hi => (World.cell?_of_block (a := ⟨b, off + i, none⟩) (e b h2)).trans (h3 i hi)⟩⟩
theorem RdS.lf {o : Own} (h : RdS w w.heap.size k A n l) (F : LF w o w') : RdS w' w.heap.size k A n l := h.keep fun b hb => F.old hb
theorem RdS.one (w : World) (k : IntKind) (T : TypeId) (x : Int) {a : Nat} (ha : a = w.heap.size) : RdS (w.alloc (.cells #[.int k x] T)) (w.heap.size + 1) k (some ⟨a, 0, none⟩) 1 [x] := by
  subst ha
  refine ⟨rfl, fun _ => ⟨w.heap.size, 0, rfl, by omega, fun i hi => ?_⟩⟩
  have hb := heap_alloc_new w (.cells #[.int k x] T)
  obtain rfl : i = 0 := by omega
  simp only [World.cell?, hb]; rfl
end

/-! ### rows of the walk's own -/
structure ElT (e : TypeId) (k : IntKind) (bytes : Nat) : Prop where
  info : ∃ i, Tryz.prog.info? e = some i ∧ i.zero = some (.int k 0) ∧ i.size = 1 ∧ i.bytes = bytes
theorem elInt : ElT 3 .i64 8 := ⟨info_parts infoInt⟩
def RowK (e : TypeId) (k : IntKind) (w : World) (v : Value) (xs : List Int) : Prop := w.ownsRow 0 e 1 v xs.length (xs.map (Value.int k))
/-- A row of numbers of the owner r's. -/
def LRow (o : Own) (w : World) (r : Nat) (v : Value) (xs : List Int) : Prop := Row w v xs ∧ ∀ g, v.ownBlock = some g → o g = r
theorem LRow.keep {lo hi r : Nat} {o o' : Own} {w w' : World} {v : Value} {xs : List Int} (h : LRow o w r v xs) (k : Fr lo hi o o' w w') (hr : r < lo ∨ hi ≤ r) : LRow o' w' r v xs := h.1.keepA h.2 k hr
theorem LRow.nil (o : Own) (w : World) (r : Nat) : LRow o w r (.slice none 0 0) [] := ⟨Row.nil w, fun g h => by cases h⟩
theorem LRow.rd {o : Own} {w : World} {r : Nat} {v : Value} {xs : List Int} (h : LRow o w r v xs) : ∃ A cap, v = .slice A xs.length cap ∧ RdS w w.heap.size .i64 A xs.length xs := by
  rcases h.1.form with ⟨rfl, rfl⟩ | ⟨g, cap, rfl, R⟩
  · exact ⟨none, 0, rfl, rfl, fun h => absurd h (by simp)⟩
  · refine ⟨_, cap, rfl, rfl, fun _ => ⟨g, 0, rfl, R.lt, fun i hi => ?_⟩⟩
    rw [Nat.zero_add]; exact R.cell hi
/-- A store into a row. -/
theorem LRow.set {o : Own} {w : World} {r i : Nat} {v : Value} {xs : List Int} (h : LRow o w r v xs) (ho : Owned o w) (hi : i < xs.length) : ∃ g cap, v = .slice (some ⟨g, 0, none⟩) xs.length cap ∧ (∀ j, j < xs.length → w.cell? ⟨g, j, none⟩ = some (.int .i64 (xs.getD j 0))) ∧ w.frozen? ⟨g, i, none⟩ = false ∧
    ∀ x, Fr r (r + 1) o o w (w.setCell ⟨g, i, none⟩ (.int .i64 x)) ∧ LRow o (w.setCell ⟨g, i, none⟩ (.int .i64 x)) r v (xs.set i x) := by
  rcases h.1.form with ⟨rfl, rfl⟩ | ⟨g, cap, rfl, R⟩
  · simp at hi
  · have hg := h.2 g rfl
    refine ⟨g, cap, rfl, fun j hj => R.cell hj, R.free i, fun x => ⟨(Fr.refl ho).setCell _ _ (.inl ⟨by simp only [hg]; omega, by simp only [hg]; omega⟩), ?_, h.2⟩⟩
    have := (R.set hi x).row
    rw [List.length_set] at this
    exact this
theorem run_append_of_nil (w : World) (base : Nat) (t ty e : TypeId) (i : TypeInfo) (size : Nat) (ht : Tryz.prog.underlying t = some (.slice e)) (hi : Tryz.prog.info? e = some i)
    (v : Value) (n : Nat) (xs : List Value) (hown : w.ownsRow base e size v n xs) (c : Nat) : (Builtin.append_ #[t, t] ty #[v, .slice none 0 c]).run Tryz.prog w = .ok v w := by
  rcases hown.2 with ⟨rfl, rfl⟩ | ⟨g, cap, cur, rfl, _, _, hnc, _⟩
  · simp [Builtin.append_, run_underlying ht, sizeOf, typeInfo, hi, Builtin.lenOf, Builtin.firstCells]
  · simp [Builtin.append_, run_underlying ht, sizeOf, typeInfo, hi, Builtin.lenOf, Builtin.firstCells, hnc, storeCells]
theorem run_append_raw {t e : TypeId} {k : IntKind} {bytes : Nat} (w : World) (ht : Tryz.prog.underlying t = some (.slice e)) (I : ElT e k bytes) (hb8 : bytes ≤ 8) {v : Value} {xs : List Int} (hown : RowK e k w v xs)
    {B : Nat} {A : Option Addr} {m : Nat} (c : Nat) {news : List Int} (hr : RdS w B k A m news) (h63 : xs.length + m ≤ 1099511627776) (ty : TypeId) :
    ∃ v' w', (Builtin.append_ #[t, t] ty #[v, .slice A m c]).run Tryz.prog w = .ok v' w' ∧ RowK e k w' v' (xs ++ news) ∧ w.grownBy w' v.ownBlock ∧ (v'.ownBlock = v.ownBlock ∨ (v'.ownBlock = some w.heap.size ∧ w.heap.size < w'.heap.size)) := by
  obtain ⟨i, hi, hz, hs, hb⟩ := I.info
  rcases A with _ | ad
  · have hm : m = 0 := by
      rcases Nat.eq_zero_or_pos m with h0 | h0
      · exact h0
      · obtain ⟨b, off, h, _⟩ := hr.2 h0
        cases h
    subst hm
    obtain rfl : news = [] := List.eq_nil_of_length_eq_zero hr.1
    exact ⟨v, w, run_append_of_nil w 0 t ty e i 1 ht hi v _ _ hown c, by simpa using hown, World.grownBy.refl w _, .inl rfl⟩
  · have hcells : ∀ j u, (news.map (Value.int k))[j]? = some u → w.cell? (ad.add j) = some u := by
      intro j u hu
      have hj : j < news.length := by
        refine Nat.lt_of_not_le fun h => ?_
        rw [List.getElem?_eq_none (by simpa using h)] at hu; cases hu
      have hm0 : 0 < m := by have := hr.1; omega
      obtain ⟨b, off, h, _, hc⟩ := hr.2 hm0
      obtain rfl := Option.some.inj h
      rw [add_spot, hc j (by have := hr.1; omega), ← hu]
      simp [List.getD, hj]
    have hby : (xs.length + m) * bytes ≤ 140737488355328 := by
      have := Nat.mul_le_mul_left (xs.length + m) hb8
      omega
    obtain ⟨v', w', hrun, h2, h3, _, h5⟩ := run_append_own_at (P := Tryz.prog) w 0 t ty e i (.int k 0) 1 bytes ht hi hz hs hb rfl (by omega) v xs.length (xs.map (Value.int k)) hown ad m c (news.map (Value.int k)) (by rw [List.length_map, hr.1]; omega) hcells (by intro u hu; obtain ⟨n, _, rfl⟩ := List.mem_map.1 hu; rfl) (by unfold maxLen; omega) hby (Nat.zero_le _)
    have h2' : RowK e k w' v' (xs ++ news) := by
      unfold RowK
      rw [List.length_append, hr.1, List.map_append]
      exact h2
    refine ⟨v', w', hrun, h2', h3, ?_⟩
    rcases h5 with h5 | h5
    · exact .inl h5
    · refine .inr ⟨h5, ?_⟩
      rcases h2.2 with ⟨e, _⟩ | ⟨g, cap, cur, e, _, hb, _⟩
      · rw [e] at h5; cases h5
      · rw [e] at h5
        simp only [Value.ownBlock, Option.some.injEq] at h5
        rw [← h5]; exact lt_of_block hb
theorem run_append_row {t e : TypeId} {k : IntKind} {bytes : Nat} (w : World) (ht : Tryz.prog.underlying t = some (.slice e)) (I : ElT e k bytes) (hb8 : bytes ≤ 8) {own : Own} (hO : Owned own w) (r : Nat) {v : Value} {xs : List Int} (hown : RowK e k w v xs) (hv : ∀ g, v.ownBlock = some g → own g = r)
    {B : Nat} {A : Option Addr} {m : Nat} (c : Nat) {news : List Int} (hr : RdS w B k A m news) (h63 : xs.length + m ≤ 1099511627776) (ty : TypeId) :
    ∃ v' w' own', (Builtin.append_ #[t, t] ty #[v, .slice A m c]).run Tryz.prog w = .ok v' w' ∧ Fr r (r + 1) own own' w w' ∧ RowK e k w' v' (xs ++ news) ∧ ∀ g, v'.ownBlock = some g → own' g = r := by
  obtain ⟨v', w', hrun, h2', h3, h5⟩ := run_append_raw w ht I hb8 hown c hr h63 ty
  have hne : ∀ b, b < w.heap.size → (own b < r ∨ r + 1 ≤ own b) → some b ≠ v.ownBlock := fun b _ hor e => by
    have := hv b e.symm; omega
  rcases h5 with h5 | ⟨h5, hlt⟩
  · exact ⟨v', w', own, hrun, ⟨h3.os, h3.tape, h3.output, h3.size, fun b hb hor => h3.block b hb (hne b hb hor), fun _ _ => rfl, fun b hb => hO b (Nat.le_trans h3.size hb)⟩, h2', fun g hg => hv g (by rw [← h5]; exact hg)⟩
  · refine ⟨v', w', own.give w.heap.size r, hrun, ⟨h3.os, h3.tape, h3.output, h3.size, fun b hb hor => h3.block b hb (hne b hb hor), fun b hb => by simp [Own.give, Nat.ne_of_lt hb], fun b hb => ?_⟩, h2', fun g hg => ?_⟩
    · simp only [Own.give]; rw [if_neg (by omega)]; exact hO b (by omega)
    · rw [h5] at hg
      simp only [Option.some.injEq] at hg
      subst hg
      simp [Own.give]
/-- A row that is new since a world 'w0', and nobody's. -/
structure RowNew (w0 : World) (o : Own) (w : World) (v : Value) (xs : List Int) : Prop where
  row : LRow o w 0 v xs
  new : ∀ g, v.ownBlock = some g → w0.heap.size ≤ g
theorem RowNew.nil (w0 : World) (o : Own) (w : World) : RowNew w0 o w (.slice none 0 0) [] := ⟨LRow.nil o w 0, fun g h => by cases h⟩
theorem RowNew.keep {lo hi : Nat} {o o' : Own} {w0 w w' : World} {v : Value} {xs : List Int} (h : RowNew w0 o w v xs) (k : Fr lo hi o o' w w') (hr : 0 < lo ∨ hi = 0) : RowNew w0 o' w' v xs := ⟨h.row.keep k (by omega), h.new⟩
theorem run_append_new {t : TypeId} (w : World) (ht : Tryz.prog.underlying t = some (.slice 3)) {w0 : World} {o0 own : Own} {lo hi : Nat} (F : Fr lo hi o0 own w0 w) {v : Value} {xs : List Int} (hown : RowNew w0 own w v xs)
    {B : Nat} {A : Option Addr} {m : Nat} (c : Nat) {news : List Int} (hr : RdS w B .i64 A m news) (h63 : xs.length + m ≤ 1099511627776) (ty : TypeId) :
    ∃ v' w', (Builtin.append_ #[t, t] ty #[v, .slice A m c]).run Tryz.prog w = .ok v' w' ∧ Fr lo hi o0 own w0 w' ∧ RowNew w0 own w' v' (xs ++ news) ∧ w.grownBy w' v.ownBlock := by
  obtain ⟨v', w', hrun, h2', h3, h5⟩ := run_append_raw w ht elInt (by omega) hown.row.1 c hr h63 ty
  have hO := F.fresh
  refine ⟨v', w', hrun, ⟨h3.os.trans F.os, h3.tape.trans F.tape, h3.output.trans F.output, Nat.le_trans F.size h3.size, fun b hb hor => ?_, F.own, fun b hb => hO b (Nat.le_trans h3.size hb)⟩, ⟨⟨h2', fun g hg => ?_⟩, fun g hg => ?_⟩, h3⟩
  · rw [h3.block b (Nat.lt_of_lt_of_le hb F.size) (fun e => by have := hown.new b e.symm; omega)]
    exact F.block b hb hor
  · rcases h5 with h5 | ⟨h5, hlt⟩
    · exact hown.row.2 g (by rw [← h5]; exact hg)
    · rw [h5] at hg
      obtain rfl := Option.some.inj hg
      exact hO _ (Nat.le_refl _)
  · rcases h5 with h5 | ⟨h5, hlt⟩
    · exact hown.new g (by rw [← h5]; exact hg)
    · rw [h5] at hg
      obtain rfl := Option.some.inj hg
      exact F.size
/-- 'append' to a row that is new. -/
theorem wpList_append_new {ops : Array Oper} {rest : List Oper} {o : Oper} {a : Act} {Q : Exit → Act → World → Prop} (w : World) (hgd : o.guard = none) (s x : Operand) (t : TypeId)
    (hop : o.op = .call { callee := .builtin .append, args := #[s, x], argTypes := #[t, t] }) (ht : Tryz.prog.underlying t = some (.slice 3)) {w0 : World} {o0 own : Own} {lo hi : Nat} (F : Fr lo hi o0 own w0 w) {v : Value} {xs : List Int} (hs : a.eval s = v) (hown : RowNew w0 own w v xs)
    {B : Nat} {A : Option Addr} {m c : Nat} {news : List Int} (hx : a.eval x = .slice A m c) (hr : RdS w B .i64 A m news) (h63 : xs.length + m ≤ 1099511627776)
    (hK : ∀ v' w', Fr lo hi o0 own w0 w' → RowNew w0 own w' v' (xs ++ news) → w.grownBy w' v.ownBlock → wpList Tryz.prog ops Q rest (a.put o.dst v') w') : wpList Tryz.prog ops Q (o :: rest) a w := by
  refine wpList_plain hgd fun K' hK' => ?_
  obtain ⟨v', w', hrun, h1, h2, h3⟩ := run_append_new w ht F hown c hr h63 o.type
  unfold Oper.wp execOp
  simp only [hop, resolve, invoke, builtin, Sem.run_bind, Sem.run_pure, Result.andThen_ok, List.map_toArray, List.map_cons, List.map_nil, hs, hx, hrun, Oper.upon_value]
  exact hK' _ _ (hK v' w' h1 h2 h3)
/-- 'append' at the operation. -/
theorem wpList_append_row {ops : Array Oper} {rest : List Oper} {o : Oper} {a : Act} {Q : Exit → Act → World → Prop} (w : World) (hgd : o.guard = none) (s x : Operand) (t : TypeId)
    (hop : o.op = .call { callee := .builtin .append, args := #[s, x], argTypes := #[t, t] }) (ht : Tryz.prog.underlying t = some (.slice 3)) {own : Own} (hO : Owned own w) (r : Nat) {v : Value} {xs : List Int} (hs : a.eval s = v) (hown : LRow own w r v xs)
    {B : Nat} {A : Option Addr} {m c : Nat} {news : List Int} (hx : a.eval x = .slice A m c) (hr : RdS w B .i64 A m news) (h63 : xs.length + m ≤ 1099511627776)
    (hK : ∀ v' w' own', Fr r (r + 1) own own' w w' → LRow own' w' r v' (xs ++ news) → wpList Tryz.prog ops Q rest (a.put o.dst v') w') : wpList Tryz.prog ops Q (o :: rest) a w := by
  refine wpList_plain hgd fun K' hK' => ?_
  obtain ⟨v', w', own', hrun, h1, h2, h3⟩ := run_append_row w ht elInt (by omega) hO r hown.1 hown.2 c hr h63 o.type
  unfold Oper.wp execOp
  simp only [hop, resolve, invoke, builtin, Sem.run_bind, Sem.run_pure, Result.andThen_ok, List.map_toArray, List.map_cons, List.map_nil, hs, hx, hrun, Oper.upon_value]
  exact hK' _ _ (hK v' w' own' h1 ⟨h2, h3⟩)
end Go.Proofs.YtlpklloagaccoaaGreat
