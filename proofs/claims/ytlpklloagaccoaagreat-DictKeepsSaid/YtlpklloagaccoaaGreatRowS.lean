/- Rows of structs that are new, and nobody's; append to them. Condition: the struct's own sizes. -/
import Derived.Test.YtlpklloagaccoaaGreatSl
import Derived.Outline
namespace Go.Proofs.YtlpklloagaccoaaGreat
open Go.RowKit
set_option linter.unusedVariables false

structure ElS (e : TypeId) (z : Value) (size bytes : Nat) : Prop where
  info : ∃ i, Tryz.prog.info? e = some i ∧ i.zero = some z ∧ i.size = size ∧ i.bytes = bytes
  zc : z.cells.size = size
  pos : 0 < size
  small : bytes ≤ 128
structure RowS (e : TypeId) (size : Nat) (w0 : World) (o : Own) (w : World) (v : Value) (n : Nat) (cs : List Value) : Prop where
  own : w.ownsRow 0 e size v n cs
  new : ∀ g, v.ownBlock = some g → w0.heap.size ≤ g ∧ o g = 0
section
variable {e : TypeId} {z : Value} {size bytes : Nat} {w0 w w' : World} {o o' : Own} {v : Value} {n : Nat} {cs : List Value}
theorem RowS.nil (e : TypeId) (size : Nat) (w0 : World) (o : Own) (w : World) : RowS e size w0 o w (.slice none 0 0) 0 [] := ⟨World.ownsRow_nil w 0 e size, fun g h => by cases h⟩
theorem RowS.form (h : RowS e size w0 o w v n cs) : (v = .slice none 0 0 ∧ n = 0) ∨ ∃ g cap, v = .slice (some ⟨g, 0, none⟩) n cap ∧ g < w.heap.size ∧ ∀ j u, cs[j]? = some u → w.cell? ⟨g, j, none⟩ = some u := by
  rcases h.own.2 with h1 | ⟨g, cap, cur, h1, _, h3, _, _, _, h7⟩
  · exact .inl h1
  · refine .inr ⟨g, cap, h1, lt_of_block h3, fun j u hu => ?_⟩
    have hj : j < cs.length := by
      refine Nat.lt_of_not_le fun hl => ?_
      rw [List.getElem?_eq_none hl] at hu; cases hu
    rw [← h7, List.getElem?_take_of_lt (by rw [← h.own.1]; exact hj)] at hu
    simp only [World.cell?, h3]
    simpa using hu
theorem RowS.keep {lo hi : Nat} (h : RowS e size w0 o w v n cs) (k : Fr lo hi o o' w w') (hr : 0 < lo ∨ hi = 0) : RowS e size w0 o' w' v n cs := by
  obtain ⟨h1, h2⟩ := h.own
  refine ⟨⟨h1, ?_⟩, fun g hg => ?_⟩
  · rcases h2 with h2 | ⟨g, cap, cur, hv, h3, h4, h5⟩
    · exact .inl h2
    · have hn := h.new g (by rw [hv]; rfl)
      exact .inr ⟨g, cap, cur, hv, h3, (k.block g (lt_of_block h4) (by rw [hn.2]; omega)).trans h4, h5⟩
  · have hn := h.new g hg
    refine ⟨hn.1, ?_⟩
    rcases h2 with h2 | ⟨g', cap, cur, hv, h3, h4, h5⟩
    · rw [h2.1] at hg; cases hg
    · rw [hv] at hg
      simp only [Value.ownBlock, Option.some.injEq] at hg
      subst hg
      rw [k.own _ (lt_of_block h4)]; exact hn.2
theorem run_append_rowS {t : TypeId} (I : ElS e z size bytes) (ht : Tryz.prog.underlying t = some (.slice e)) {o0 : Own} {lo hi : Nat} (F : Fr lo hi o0 o w0 w) (hown : RowS e size w0 o w v n cs)
    (ad : Addr) (c : Nat) (news : List Value) (hl : news.length = size) (hnews : ∀ j u, news[j]? = some u → w.cell? (ad.add j) = some u) (h1 : ∀ u ∈ news, u.oneCell' = true) (hn : n ≤ 1048576) (ty : TypeId) :
    ∃ v' w', (Builtin.append_ #[t, t] ty #[v, .slice (some ad) 1 c]).run Tryz.prog w = .ok v' w' ∧ Fr lo hi o0 o w0 w' ∧ RowS e size w0 o w' v' (n + 1) (cs ++ news) ∧ w.grownBy w' v.ownBlock := by
  obtain ⟨i, hi', hz, hs, hb⟩ := I.info
  have hby : (n + 1) * bytes ≤ 140737488355328 := by
    have := Nat.mul_le_mul_left (n + 1) I.small
    omega
  obtain ⟨v', w', hrun, h2, h3, _, h5⟩ := run_append_own_at (P := Tryz.prog) w 0 t ty e i z size bytes ht hi' hz hs hb I.zc I.pos v n cs hown.own ad 1 c news (by rw [hl, Nat.one_mul]) hnews h1 (by unfold maxLen; omega) hby (Nat.zero_le _)
  have hO := F.fresh
  refine ⟨v', w', hrun, ⟨h3.os.trans F.os, h3.tape.trans F.tape, h3.output.trans F.output, Nat.le_trans F.size h3.size, fun b hb hor => ?_, F.own, fun b hb => hO b (Nat.le_trans h3.size hb)⟩, ⟨h2, fun g hg => ?_⟩, h3⟩
  · rw [h3.block b (Nat.lt_of_lt_of_le hb F.size) (fun e => by have := (hown.new b e.symm).1; omega)]
    exact F.block b hb hor
  · rcases h5 with h5 | h5
    · exact hown.new g (by rw [← h5]; exact hg)
    · rw [h5] at hg
      obtain rfl := Option.some.inj hg
      exact ⟨F.size, hO _ (Nat.le_refl _)⟩
theorem wpList_append_rowS {ops : Array Oper} {rest : List Oper} {oo : Oper} {a : Act} {Q : Exit → Act → World → Prop} (w : World) (hgd : oo.guard = none) (s x : Operand) (t : TypeId)
    (hop : oo.op = .call { callee := .builtin .append, args := #[s, x], argTypes := #[t, t] }) (I : ElS e z size bytes) (ht : Tryz.prog.underlying t = some (.slice e)) {o0 : Own} {lo hi : Nat} (F : Fr lo hi o0 o w0 w) (hs : a.eval s = v) (hown : RowS e size w0 o w v n cs)
    {ad : Addr} {c : Nat} (hx : a.eval x = .slice (some ad) 1 c) (news : List Value) (hl : news.length = size) (hnews : ∀ j u, news[j]? = some u → w.cell? (ad.add j) = some u) (h1 : ∀ u ∈ news, u.oneCell' = true) (hn : n ≤ 1048576)
    (hK : ∀ v' w', Fr lo hi o0 o w0 w' → RowS e size w0 o w' v' (n + 1) (cs ++ news) → w.grownBy w' v.ownBlock → wpList Tryz.prog ops Q rest (a.put oo.dst v') w') : wpList Tryz.prog ops Q (oo :: rest) a w := by
  refine wpList_plain hgd fun K' hK' => ?_
  obtain ⟨v', w', hrun, h2, h3, h4⟩ := run_append_rowS I ht F hown ad c news hl hnews h1 hn oo.type
  unfold Oper.wp execOp
  simp only [hop, resolve, invoke, builtin, Sem.run_bind, Sem.run_pure, Result.andThen_ok, List.map_toArray, List.map_cons, List.map_nil, hs, hx, hrun, Oper.upon_value]
  exact hK' _ _ (hK v' w' h2 h3 h4)
end
end Go.Proofs.YtlpklloagaccoaaGreat
