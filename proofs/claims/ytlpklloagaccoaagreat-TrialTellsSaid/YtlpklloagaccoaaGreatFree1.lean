/- Pages are given back, and what waits goes at once (pages.Table.Give, line.Line.Add with a budget of nothing). Conditions: as ones that were made. A block that was freed goes back into its row, or its pages do (arena.open, arena.opens). Conditions: the arena is as one that was made. A block is freed (arena.Free), where nothing may wait. Conditions: the block is in use, nobody wrote behind it. An object goes (object.Drop). Conditions: the space is as one that was made. -/
import Derived.Test.YtlpklloagaccoaaGreatArNew
import Derived.Test.YtlpklloagaccoaaGreatSl
import Derived.Deep.AppendSrc
import Derived.Outline
import Derived.Test.YtlpklloagaccoaaGreatSpaceW
import Derived.Test.YtlpklloagaccoaaGreatLeast3
import Derived.Test.YtlpklloagaccoaaGreatObSet
namespace Go.Proofs.YtlpklloagaccoaaGreat
open Go.RowKit
set_option linter.unusedVariables false

theorem zero_run (w : World) : (zeroValue 230).run Tryz.prog w = .ok (.agg #[.int .i64 0, .int .i64 0, .int .i64 0]) w := by kernel_rfl
theorem Pages.look {o : Own} {w : World} {r p n : Nat} {S : Nat → Bool} {R : Runs} {q b : Nat} (P : Pages o w r p n S R q b) (k : Int) :
    (Instr.lookup 195 (.map (some b)) (.int .i64 k) true).run Tryz.prog w = .ok (.tuple #[((R k).map runV).getD (.agg #[.int .i64 0, .int .i64 0, .int .i64 0]), .bool ((R k).map runV).isSome]) w := by
  rw [MapIs.lookup P.map.2 Tryz.underlying195 Tryz.underlying3 zero_run true k]
  rfl
theorem Pages.del {o : Own} {w w' : World} {r p n : Nat} {S : Nat → Bool} {R : Runs} {q b : Nat} (P : Pages o w r p n S R q b) (ho : Owned o w) (k : Int)
    (hm : MapIs w' b (fun j => if j = k then none else (R j).map runV)) (ht : MapTurn w w' b) : Fr r (r + 4) o o w w' ∧ Pages o w' r p n S (fun j => if j = k then none else R j) q b := by
  have F := ht.fr (lo := r + 3) (hi := r + 4) ho (by rw [P.map.1]; omega)
  refine ⟨F.mono (by omega) (by omega), P.blk.keep F (by omega), P.set.keep F (by omega), ⟨P.map.1, hm.congr fun j => ?_⟩, fun j x hj => ?_⟩
  · by_cases h : j = k
    · rw [if_pos h, if_pos h]; rfl
    · rw [if_neg h, if_neg h]
  · by_cases h : j = k
    · rw [if_pos h] at hj; cases hj
    · rw [if_neg h] at hj; exact P.rng j x hj
def GiveRel (o : Own) (w : World) (r p n q b : Nat) (wr : World) : Prop := Fr r (r + 4) o o w wr ∧ ∃ S R, Pages o wr r p n S R q b
/-- Behind Give. -/
def GivePost (o : Own) (w : World) (r p n : Nat) (e : Ending) (w' : World) : Prop := (∃ b, e = .returned (.bool b)) ∧ Fr r (r + 4) o o w w' ∧ ∃ S R, PagesRep o w' r p n S R
theorem bdrop_int {o : Own} {r p n : Nat} {S : Nat → Bool} (ii : Int) (i : Nat) (e : ii = i) (w : World) (ho : Owned o w) (B : BsetRep o w r p n S) (hi : i < n) :
    Calls Tryz.prog 229 #[.pointer (some ⟨p, 0, none⟩), .int .i64 ii] w fun e w' => ∃ v, FlipPost o w r p n (setS S i false) v e w' := by
  subst e
  exact (bdrop_any i w ho B hi).mono fun e w' h => ⟨_, h⟩
set_option maxRecDepth 100000 in
set_option maxHeartbeats 1000000 in
theorem give_any {o : Own} {r p n : Nat} {S : Nat → Bool} {R : Runs} (ii : Int) (i : Nat) (e : ii = i) (w : World) (ho : Owned o w) (P : PagesRep o w r p n S R) :
    Calls Tryz.prog 213 #[.pointer (some ⟨p, 0, none⟩), .int .i64 ii] w (GivePost o w r p n) := by
  subst e
  obtain ⟨q, b, P⟩ := P
  have hlk := P.look (i : Int)
  have c2 := P.blk.cell 2
  cases hR : R (i : Int) with
  | none =>
    rw [hR] at hlk
    simp only [Option.map_none, Option.getD_none, Option.isSome_none] at hlk
    have HP := Lib.hid P
    have HO := Lib.hid ho
    clear P ho hR
    go_enter Tryz.func213, Tryz.ntmps213
    go_wp2_with fail
    go_ret
    exact ⟨⟨_, rfl⟩, (Fr.refl HO.out).alloc _, S, R, q, b, HP.out.keep (lo := 0) (hi := 0) ((Fr.refl HO.out).alloc _) (.inr (Nat.zero_le _))⟩
  | some x =>
    obtain ⟨f, k, mk⟩ := x
    rw [hR] at hlk
    simp only [Option.map_some, Option.getD_some, Option.isSome_some, runV] at hlk
    have hrng := P.rng _ _ hR
    simp only at hrng
    have hle := P.set.le
    have HP := Lib.hid P
    have HO := Lib.hid ho
    clear P ho hR
    by_cases hf : f = i
    · subst hf
      go_enter Tryz.func213, Tryz.ntmps213
      go_wp2_with fail
      go_loopw [27] (fun jv wr => ∃ j : Nat, j ≤ k ∧ jv = .int .i64 j ∧ GiveRel o w r p n q b wr) (fun jv _ => k - (intOf jv).toNat)
      case atStart => exact ⟨0, by omega, rfl, by repeat (first | exact Fr.refl HO.out | refine Fr.drew ?_ | refine Fr.alloc ?_ _ | refine Fr.setCell ?_ _ _ (.inr (Nat.le_refl _))), S, R, HP.out.keep (lo := 0) (hi := 0) (o' := o) (by repeat (first | exact Fr.refl HO.out | refine Fr.drew ?_ | refine Fr.alloc ?_ _ | refine Fr.setCell ?_ _ _ (.inr (Nat.le_refl _)))) (.inr (Nat.zero_le _))⟩
      case round =>
        obtain ⟨j, hj, rfl, Fj, Sj, Rj, Pj⟩ := hrel
        have c1 := Pj.blk.cell 1
        have c2' := Pj.blk.cell 2
        simp only [List.getElem?_toArray, List.getElem?_cons_zero, List.getElem?_cons_succ] at c1 c2'
        have HPj := Lib.hid Pj
        have HFj := Lib.hid Fj
        clear Fj Pj c2 hlk
        by_cases hjk : j < k
        · have hjk' : (j : Int) < (k : Int) := by omega
          have HDr := Lib.hid (bdrop_int ((f : Int) + (j : Int)) (f + j) (by omega) wr HFj.out.fresh HPj.out.set (by omega))
          go_wp2_with fail
          go_at_call 229
          refine HDr.out.mono ?_
          rintro e w1 ⟨v1, rfl, F1, B1⟩
          have P1 : Pages o w1 r p n (setS Sj (f + j) false) Rj q b := ⟨HPj.out.blk.keep F1 (by omega), B1, HPj.out.map.keep F1 (by omega), HPj.out.rng⟩
          have c2 := P1.blk.cell 2
          simp only [List.getElem?_toArray, List.getElem?_cons_zero, List.getElem?_cons_succ] at c2
          have HP1 := Lib.hid P1
          have HF1 := Lib.hid (HFj.out.trans (F1.mono (by omega) (by omega)))
          clear P1 F1 B1 c1 c2'
          go_wp2_with (at_delete; refine wpList_delete_is _ rfl _ _ 195 3 rfl 230 Tryz.underlying195 Tryz.underlying3 b _ (by exact HP1.out.map.2) rfl ((f : Int) + (j : Int)) rfl ?_; intro w2 hm2 ht2; have HT2 := Lib.hid (HP1.out.del HF1.out.fresh ((f : Int) + (j : Int)) hm2 ht2); clear hm2 ht2)
          exact ⟨⟨j + 1, by omega, by go_num, HF1.out.trans HT2.out.1, _, _, HT2.out.2⟩, by simp [intOf]; omega⟩
        · have hjk' : ¬ (j : Int) < (k : Int) := by omega
          go_wp2_with fail
          go_ret
          exact ⟨⟨_, rfl⟩, HFj.out, Sj, Rj, q, b, HPj.out⟩
    · have hf' : ((f : Int) != (i : Int)) = true := by simp; omega
      go_enter Tryz.func213, Tryz.ntmps213
      go_wp2_with fail
      go_ret
      exact ⟨⟨_, rfl⟩, (Fr.refl HO.out).alloc _, S, R, q, b, HP.out.keep (lo := 0) (hi := 0) ((Fr.refl HO.out).alloc _) (.inr (Nat.zero_le _))⟩

theorem infoOne : (Tryz.prog.info? 205).map (fun i => (i.zero, i.size, i.bytes)) = some (some (.agg #[.int .i64 0, .int .i64 0]), 2, 16) := by kernel_rfl

/-- The line's row: nothing stands in it. -/
def LineV (o : Own) (w : World) (r : Nat) (v : Value) : Prop := v = .slice none 0 0 ∨ ∃ g a c cs, v = .slice (some ⟨g, a, none⟩) 0 c ∧ Blk o w (r + 1) g (.cells cs 205 (0, 0)) ∧ a + 2 * c ≤ cs.size ∧ c ≤ maxLen
theorem setCells_two (w : World) (g a : Nat) (x y : Value) : w.setCells g a [x, y] = (w.setCell ⟨g, a, none⟩ x).setCell ⟨g, a + 1, none⟩ y := rfl
/-- One of two words goes into it. -/
def LineIn (o : Own) (w : World) (r : Nat) (x y : Value) (v' : Value) (o' : Own) (w' : World) : Prop :=
  ∃ g a c cs, v' = .slice (some ⟨g, a, none⟩) 1 c ∧ Fr (r + 1) (r + 2) o o' w w' ∧ Blk o' w' (r + 1) g (.cells cs 205 (0, 0)) ∧ 1 ≤ c ∧ c ≤ maxLen ∧ a + 2 * c ≤ cs.size ∧ cs[a]? = some x ∧ cs[a + 1]? = some y
theorem run_append_line {o : Own} {w : World} {r : Nat} {v : Value} (ho : Owned o w) (h : LineV o w r v) (ad : Addr) (m : Nat) (x y : Value) (hx : x.oneCell' = true) (hy : y.oneCell' = true) (h0 : w.cell? (ad.add 0) = some x) (h1 : w.cell? (ad.add 1) = some y) (ty : TypeId) :
    ∃ v' o' w', (Builtin.append_ #[198, 198] ty #[v, .slice (some ad) 1 m]).run Tryz.prog w = .ok v' w' ∧ LineIn o w r x y v' o' w' := by
  obtain ⟨i, hi, hz, hs, hb⟩ := info_parts infoOne
  have hsrc : Src Tryz.prog i.size 198 (.slice (some ad) 1 m) 1 [x, y] w := Src.ofSlice w (e' := 205) Tryz.underlying198 ad 1 m [x, y] (by rw [hs]; rfl) (fun j u hj => by
    match j, hj with
    | 0, hj => simp at hj; subst hj; exact h0
    | 1, hj => simp at hj; subst hj; exact h1) (fun u hu => by
    simp only [List.mem_cons, List.not_mem_nil, or_false] at hu
    rcases hu with rfl | rfl
    · exact hx
    · exact hy)
  have grow : ∀ base c, c = 0 → ∃ v' o' w', (Builtin.append_ #[198, 198] ty #[.slice base 0 c, .slice (some ad) 1 m]).run Tryz.prog w = .ok v' w' ∧ LineIn o w r x y v' o' w' := by
    rintro base c rfl
    have hr := run_append_grow_src (P := Tryz.prog) w 198 198 ty 205 i _ Tryz.underlying198 hi hz base 0 0 [] (by cases base <;> simp [Builtin.firstCells, loadCells, loadCellsFrom]) _ 1 [x, y] hsrc (by omega) (by omega) (by rw [hb]; decide)
    refine ⟨_, o.give w.heap.size (r + 1), _, hr, ?_⟩
    have hge := grownCap_ge w (0 + 1) 0 205
    have hle := grownCap_le_maxLen w (0 + 1) 0 205 (by unfold maxLen; omega)
    refine ⟨w.heap.size, 0, _, _, rfl, ((Fr.refl (lo := r + 1) (hi := r + 2) ho).drew).give _ (r + 1), Blk.new (w := w.drew) _ (r + 1), by omega, hle, ?_, ?_, ?_⟩
    · simp [size_zeroCells, Value.cells]; omega
    · rw [Array.getElem?_append_left (by simp)]; rfl
    · rw [Array.getElem?_append_left (by simp)]; rfl
  rcases h with rfl | ⟨g, a, c, cs, rfl, hB, hc, hm⟩
  · exact grow none 0 rfl
  · rcases Nat.eq_zero_or_pos c with h0c | h0c
    · exact grow _ c h0c
    · have hr := run_append_room_src (P := Tryz.prog) w 198 198 ty 205 i Tryz.underlying198 hi g a 0 c _ 1 [x, y] hsrc (by omega) (fun j hj => by
        rw [hB.cell]
        have : j < 2 := hj
        rw [Nat.zero_mul, Nat.add_zero, Array.getElem?_eq_getElem (by omega)]; rfl) (fun j hj => hB.free _)
      rw [Nat.zero_mul, Nat.add_zero, setCells_two] at hr
      refine ⟨_, o, _, hr, g, a, c, _, rfl, ?_, (hB.set a x).set (a + 1) y, h0c, hm, by simpa using hc, ?_, ?_⟩
      · have hg : o g = r + 1 := hB.1
        exact ((Fr.refl ho).setCell _ _ (.inl ⟨by simp only [hg]; omega, by simp only [hg]; omega⟩)).setCell _ _ (.inl ⟨by simp only [hg]; omega, by simp only [hg]; omega⟩)
      · rw [Array.getElem?_setIfInBounds_ne (by omega), Array.getElem?_setIfInBounds_self_of_lt (by omega)]
      · rw [Array.getElem?_setIfInBounds_self_of_lt (by simp; omega)]
theorem cell_two_new (w : World) (x y : Value) (T : TypeId) : (w.alloc (.cells #[x, y] T)).cell? ((⟨w.heap.size, 0, none⟩ : Addr).add 0) = some x ∧ (w.alloc (.cells #[x, y] T)).cell? ((⟨w.heap.size, 0, none⟩ : Addr).add 1) = some y := by
  have h := heap_alloc_new w (.cells #[x, y] T)
  constructor
  · rw [add_spot]; simp only [World.cell?, h]; rfl
  · rw [add_spot]; simp only [World.cell?, h]; rfl
theorem wpList_append_line {ops : Array Oper} {rest : List Oper} {oo : Oper} {a : Act} {Q : Exit → Act → World → Prop} (w : World) (hgd : oo.guard = none) (s x : Operand)
    (hop : oo.op = .call { callee := .builtin .append, args := #[s, x], argTypes := #[198, 198] }) {o : Own} {r : Nat} (ho : Owned o w) {v : Value} (hs : a.eval s = v) (hv : LineV o w r v)
    {ad : Addr} {m : Nat} (hx : a.eval x = .slice (some ad) 1 m) (u1 u2 : Value) (h1 : u1.oneCell' = true) (h2 : u2.oneCell' = true) (c0 : w.cell? (ad.add 0) = some u1) (c1 : w.cell? (ad.add 1) = some u2)
    (hK : ∀ v' o' w', LineIn o w r u1 u2 v' o' w' → wpList Tryz.prog ops Q rest (a.put oo.dst v') w') : wpList Tryz.prog ops Q (oo :: rest) a w := by
  refine wpList_plain hgd fun K' hK' => ?_
  obtain ⟨v', o', w', hrun, hl⟩ := run_append_line ho hv ad m u1 u2 h1 h2 c0 c1 oo.type
  unfold Oper.wp execOp
  simp only [hop, resolve, invoke, builtin, Sem.run_bind, Sem.run_pure, Result.andThen_ok, List.map_toArray, List.map_cons, List.map_nil, hs, hx, hrun, Oper.upon_value]
  exact hK' _ _ (hK v' o' w' hl)
theorem LineV.keep {lo hi : Nat} {o o' : Own} {w w' : World} {r : Nat} {v : Value} (h : LineV o w r v) (k : Fr lo hi o o' w w') (hr : r + 1 < lo ∨ hi ≤ r + 1) : LineV o' w' r v := by
  rcases h with h | ⟨g, a, c, cs, hv, hb, h3, h4⟩
  · exact .inl h
  · exact .inr ⟨g, a, c, cs, hv, hb.keep k hr, h3, h4⟩
/-- The line while one waits. -/
structure Line1 (o : Own) (w : World) (r p : Nat) (v : Value) (g a c : Nat) (cs : Array Value) (k : Int) (n : Nat) : Prop where
  blk : Blk o w r p (.cells #[.int .i64 0, .int .i64 (n : Nat), v] 200 (0, 0))
  hv : v = .slice (some ⟨g, a, none⟩) 1 c
  row : Blk o w (r + 1) g (.cells cs 205 (0, 0))
  c1 : 1 ≤ c ∧ c ≤ maxLen
  fit : a + 2 * c ≤ cs.size
  x0 : cs[a]? = some (.int .i64 k)
  x1 : cs[a + 1]? = some (.int .i64 (n : Nat))
set_option maxRecDepth 100000 in
theorem lfirst {o : Own} {r p : Nat} {v : Value} {g a c : Nat} {cs : Array Value} {k : Int} {n : Nat} (w : World) (ho : Owned o w) (L : Line1 o w r p v g a c cs k n) (hn : n ≤ 1073741824) :
    Calls Tryz.prog 197 #[.pointer (some ⟨p, 0, none⟩)] w fun e w' => e = .returned (.int .i64 k) ∧ Fr r (r + 2) o o w w' ∧ LineRep o w' r p := by
  obtain ⟨hB, rfl, hR, hc, hf, x0, x1⟩ := L
  have c1 := hB.cell 1
  have c2 := hB.cell 2
  simp only [List.getElem?_toArray, List.getElem?_cons_zero, List.getElem?_cons_succ] at c1 c2
  have f1 := hB.free 1
  have f2 := hB.free 2
  have r0 := (hR.cell a).trans x0
  have r1 := (hR.cell (a + 1)).trans x1
  have hc1 : (1 : Int) ≤ (c : Int) := by omega
  have hpg : ¬ p = g := fun e => by have h1 := hB.1; have h2 := hR.1; rw [e] at h1; omega
  have HB := Lib.hid hB
  have HR := Lib.hid hR
  have HO := Lib.hid ho
  have HC := Lib.hid (And.intro hc hf)
  have hpl := hB.lt
  have hgl := hR.lt
  clear hB hR ho hc hf x0 x1
  have hx : ¬ w.heap.size = p := by omega
  have HR2 := Lib.hid (fun (A2 : Option Addr) (cc : Nat) (x : Obj) (hA : ∃ b f, A2 = some ⟨b, f, none⟩ ∧ b = g ∧ f + 2 * cc ≤ cs.size) (hc2 : cc ≤ maxLen) => show Fr r (r + 2) o o w (((w.setCell ⟨p, 2, none⟩ (.slice A2 0 cc)).setCell ⟨p, 1, none⟩ (.int .i64 0)).alloc x).drew ∧ LineRep o (((w.setCell ⟨p, 2, none⟩ (.slice A2 0 cc)).setCell ⟨p, 1, none⟩ (.int .i64 0)).alloc x).drew r p from by
    obtain ⟨b, f, rfl, rfl, h3⟩ := hA
    have hop := HB.out.1
    have F0 : Fr r (r + 2) o o w ((w.setCell ⟨p, 2, none⟩ (.slice (some ⟨b, f, none⟩) 0 cc)).setCell ⟨p, 1, none⟩ (.int .i64 0)) := ((Fr.refl HO.out).setCell _ _ (.inl ⟨by simp only [hop]; omega, by simp only [hop]; omega⟩)).setCell _ _ (.inl ⟨by simp only [hop]; omega, by simp only [hop]; omega⟩)
    have L0 : LineRep o ((w.setCell ⟨p, 2, none⟩ (.slice (some ⟨b, f, none⟩) 0 cc)).setCell ⟨p, 1, none⟩ (.int .i64 0)) r p := ⟨_, (HB.out.set 2 _).set 1 _, .inr ⟨b, f, cc, cs, rfl, HR.out.of_eq ((Below.heap_setCell _ _ _ _ (fun e => hpg e.symm)).trans (Below.heap_setCell _ _ _ _ (fun e => hpg e.symm))), h3, hc2⟩⟩
    exact ⟨(F0.alloc x).drew, L0.keep (lo := 0) (hi := 0) (((Fr.refl F0.fresh).alloc x).drew) (.inr (Nat.zero_le _))⟩)
  go_enter Tryz.func197, Tryz.ntmps197
  go_wp2_with fail
  all_goals
    go_region
    all_goals
      go_wp2_with fail
      go_ret
      exact ⟨rfl, HR2.out _ _ _ ⟨_, _, rfl, rfl, by have := HC.out; omega⟩ (by have := HC.out; omega)⟩
set_option maxRecDepth 100000 in
set_option maxHeartbeats 1000000 in
theorem ladd_any {o : Own} {r p : Nat} (k : Int) (n : Nat) (w : World) (ho : Owned o w) (L : LineRep o w r p) (hn : 1 ≤ n) (hn2 : n ≤ 1073741824) :
    Calls Tryz.prog 172 #[.pointer (some ⟨p, 0, none⟩), .int .i64 k, .int .i64 (n : Nat)] w fun e w' => ∃ v o', e = .returned v ∧ Fr r (r + 2) o o' w w' ∧ LineRep o' w' r p ∧ RowNew w o' w' v [k] := by
  obtain ⟨v, hB, hv⟩ := L
  have HV := Lib.hid (show LineV o w r v from hv)
  have h0 : (0 : Int) ≤ (n : Int) := by omega
  have h1 : (n : Int) ≤ 1073741824 := by omega
  have hmin : min (n : Int) 1073741824 = (n : Int) := by omega
  have hmax : max 0 (n : Int) = (n : Int) := by omega
  have c2 := hB.cell 2
  simp only [List.getElem?_toArray, List.getElem?_cons_zero, List.getElem?_cons_succ] at c2
  have hpl := hB.lt
  have HB := Lib.hid hB
  have HO := Lib.hid ho
  clear hB hv ho
  go_enter Tryz.func172, Tryz.ntmps172
  go_wp2_with (at_builtin; refine wpList_append_line _ rfl _ _ rfl (o := o) (r := r) ((Fr.refl (lo := 0) (hi := 0) HO.out).alloc _).fresh rfl (HV.out.keep (lo := 0) (hi := 0) ((Fr.refl HO.out).alloc _) (.inr (by omega))) rfl (.int .i64 k) (.int .i64 (n : Nat)) rfl rfl (cell_two_new _ _ _ _).1 (cell_two_new _ _ _ _).2 ?_; rintro v1 o1 w1 ⟨g, a, c, cs, rfl, F1, B1, hc1, hc2, hfit, x0, x1⟩; have P1 := (HB.out.keep (lo := 0) (hi := 0) ((Fr.refl HO.out).alloc _) (.inr (Nat.zero_le _))).keep F1 (by omega); have d0 := P1.cell 0; have d1 := P1.cell 1; have d2 := P1.cell 2; have e0 := P1.free 0; have e1 := P1.free 1; have e2 := P1.free 2; simp only [List.getElem?_toArray, List.getElem?_cons_zero, List.getElem?_cons_succ] at d0 d1 d2; have HF1 := Lib.hid F1; have HX := Lib.hid (And.intro B1 (And.intro (And.intro hc1 hc2) (And.intro hfit (And.intro x0 x1)))); have HP1 := Lib.hid P1; clear F1 B1 hc1 hc2 hfit x0 x1 P1 c2)
  have hop := HP1.out.1
  have HFW := Lib.hid (show Fr r (r + 2) o1 o1 w1 ((w1.setCell ⟨p, 2, none⟩ (.slice (some ⟨g, a, none⟩) 1 c)).setCell ⟨p, 1, none⟩ (.int .i64 (n : Nat))) from ((Fr.refl HF1.out.fresh).setCell _ _ (.inl ⟨by simp only [hop]; omega, by simp only [hop]; omega⟩)).setCell _ _ (.inl ⟨by simp only [hop]; omega, by simp only [hop]; omega⟩))
  have hpg : ¬ p = g := fun e => by have h2 := HX.out.1.1; rw [e] at hop; omega
  have HL1 := Lib.hid (show Line1 o1 ((w1.setCell ⟨p, 2, none⟩ (.slice (some ⟨g, a, none⟩) 1 c)).setCell ⟨p, 1, none⟩ (.int .i64 (n : Nat))) r p (.slice (some ⟨g, a, none⟩) 1 c) g a c cs k n from
    ⟨(HP1.out.set 2 _).set 1 _, rfl, HX.out.1.of_eq ((Below.heap_setCell _ _ _ _ (fun e => hpg e.symm)).trans (Below.heap_setCell _ _ _ _ (fun e => hpg e.symm))), HX.out.2.1, HX.out.2.2.1, HX.out.2.2.2.1, HX.out.2.2.2.2⟩)
  clear d0 d1 d2 e0 e1 e2 hop hpg
  generalize ((w1.setCell ⟨p, 2, none⟩ (.slice (some ⟨g, a, none⟩) 1 c)).setCell ⟨p, 1, none⟩ (.int .i64 (n : Nat))) = W2 at *
  have d0 := HL1.out.blk.cell 0
  have d1 := HL1.out.blk.cell 1
  simp only [List.getElem?_toArray, List.getElem?_cons_zero, List.getElem?_cons_succ] at d0 d1
  have hgt : (0 : Int) < (n : Int) := by omega
  have HFst := Lib.hid (fun (q : Nat) => lfirst (W2.drewN q) (HFW.out.fresh) (show Line1 o1 (W2.drewN q) r p (.slice (some ⟨g, a, none⟩) 1 c) g a c cs k n from ⟨HL1.out.blk, rfl, HL1.out.row, HL1.out.c1, HL1.out.fit, HL1.out.x0, HL1.out.x1⟩) hn2)
  refine wp_loop_rounds 2 ?_
  rw [rounds_succ]
  go_wp2_with fail
  go_quiet (fail)
  go_wp2_with fail
  go_at_call 197
  refine (HFst.out nq).mono ?_
  rintro e w3 ⟨rfl, F3, L3⟩
  have HF3 := Lib.hid ((((Fr.refl (lo := r) (hi := r + 2) HO.out).alloc (.cells #[.int .i64 k, .int .i64 (n : Nat)] 205)).trans (HF1.out.mono (by omega) (by omega))).trans (HFW.out.trans (((Fr.refl HFW.out.fresh).drewN nq).trans F3)))
  have HL3 := Lib.hid L3
  clear F3 L3 d0 d1
  go_wp2_with (at_builtin; refine wpList_append_new _ rfl _ _ _ rfl Tryz.underlying38 (w0 := w) (o0 := o) (own := o1) (lo := r) (hi := r + 2) (HF3.out.alloc _) rfl (RowNew.nil _ _ _) rfl (RdS.one _ .i64 _ k (by simp)) (by simp) ?_; intro v4 w4 F4 R4 G4; have HF4 := Lib.hid F4; have HR4 := Lib.hid R4; have L4 := (HL3.out.keep (lo := 0) (hi := 0) ((Fr.refl HF3.out.fresh).alloc _) (.inr (Nat.zero_le _))).keep (lo := 0) (hi := 0) (o' := o1) (w' := w4) ⟨G4.os, G4.tape, G4.output, G4.size, fun b hb _ => G4.block b hb (fun e => by cases (show some b = none from e)), fun _ _ => rfl, F4.fresh⟩ (.inr (Nat.zero_le _)); have HL4 := Lib.hid L4; obtain ⟨v5, hB5, _⟩ := L4; have d0 := hB5.cell 0; have d1 := hB5.cell 1; simp only [List.getElem?_toArray, List.getElem?_cons_zero, List.getElem?_cons_succ] at d0 d1; clear F4 R4 G4 hB5)
  rw [rounds_succ]
  go_wp2_with fail
  go_quiet (fail)
  go_wp2_with fail
  go_ret
  exact ⟨_, o1, rfl, HF4.out.drewN _, HL4.out.keep (lo := 0) (hi := 0) ((Fr.refl HF4.out.fresh).drewN _) (.inr (Nat.zero_le _)), HR4.out.keep (lo := 0) (hi := 0) ((Fr.refl HF4.out.fresh).drewN _) (.inr rfl)⟩
end Go.Proofs.YtlpklloagaccoaaGreat
namespace Go.Proofs.YtlpklloagaccoaaGreat
open Go.RowKit
set_option linter.unusedVariables false

/-- A block is no more. -/
theorem Arena.del {o : Own} {w w' : World} {r p : Nat} {S : ArS} {g q l b : Nat} {v : Nat → Value} {f : Int → Option Nat} (A : Arena o w r p S g q l b v f) (ho : Owned o w) (k : Int)
    (hm : MapIs w' b (fun j => if j = k then none else (f j).map fun a => .pointer (some ⟨a, 0, none⟩))) (ht : MapTurn w w' b) : Fr r (r + 15) o o w w' ∧ Arena o w' r p { S with bl := updI S.bl k none } g q l b v (updI f k none) := by
  have F := ht.fr (lo := r + 2) (hi := r + 3) ho (by rw [A.map.1]; omega)
  refine ⟨F.mono (by omega) (by omega), A.blk.keep F (by omega), A.gown, A.ws.of_eq (F.block g A.ws.lt (by rw [A.gown]; omega)), A.mlt, ⟨A.map.1, hm.congr fun j => ?_⟩, fun j hj => ?_, fun j a hj => ?_, fun j j' a hj hj' => ?_,
    fun c hc => ((A.row c hc).keepA (A.rown c hc) F (by omega)).1, A.rown, A.pages.keep F (by omega), A.line.keep F (by omega), A.n1⟩
  · unfold updI
    split
    · rfl
    · rfl
  · revert hj
    show updI f k none j = none → updI S.bl k none j = none
    unfold updI
    split
    · intro _; rfl
    · exact A.bnone j
  · revert hj
    show updI f k none j = some a → ∃ y, updI S.bl k none j = some y ∧ _
    unfold updI
    split
    · intro h; cases h
    · intro h
      obtain ⟨y, h1, h2⟩ := A.bsome j a h
      exact ⟨y, h1, h2.keep F (by omega)⟩
  · revert hj hj'
    unfold updI
    split
    · intro h; cases h
    · intro h
      split
      · intro h'; cases h'
      · intro h'; exact A.inj j j' a h h'
/-- What stays, and what turns, where a block that waited is free. -/
structure Opened (S : ArS) (k : Int) (S' : ArS) : Prop where
  n : S'.n = S.n
  t : S'.t = S.t
  cur : S'.cur = S.cur
  m : S'.m = S.m
  oth : ∀ j, j ≠ k → S'.bl j = S.bl j
  at_ : ∀ y, S'.bl k = some y → y.state = 3 ∧ ∃ x, S.bl k = some x ∧ y.size = x.size ∧ y.asked = x.asked
  rows : RowsOk S'
def OpenPost (o : Own) (w : World) (r p : Nat) (S : ArS) (k : Int) (e : Ending) (w' : World) : Prop :=
  e = .returned (.tuple #[]) ∧ ∃ o' S', Fr r (r + 15) o o' w w' ∧ ArenaRep o' w' r p S' ∧ Opened S k S'
theorem RowsOk.notin {S : ArS} (h : RowsOk S) {k : Int} {x : Bl} (hx : S.bl k = some x) (hs : x.state = 2 ∨ x.state = 1) {c : Nat} (hc : c < 5) : k ∉ S.rows c := fun hm => by
  obtain ⟨y, h1, h2⟩ := h.free c hc k hm
  rw [hx] at h1; cases h1; omega
theorem RowsOk.len {S : ArS} (h : RowsOk S) (ok : ArOk S) (hn : S.n ≤ 4096) {c : Nat} (hc : c < 5) : (S.rows c).length ≤ 1048576 :=
  nodup_len (h.nd c hc) fun k hk => by
    obtain ⟨x, h1, _⟩ := h.free c hc k hk
    obtain ⟨a, rfl, h2, h3, _⟩ := ok.nat k x h1
    have := ok.tn
    unfold KB
    omega
/-- .. into a row. -/
theorem Opened.small {S : ArS} {k : Int} {x : Bl} (hR : RowsOk S) (hx : S.bl k = some x) (hs : x.state = 2) {c : Nat} (hc : c < 5) {ys : List Int} (hp : ys.Perm (S.rows c ++ [k])) (cu : Nat → Nat × Nat) (hcu : cu = S.cur) :
    Opened S k { S with bl := updI S.bl k (some ⟨x.size, x.asked, 3⟩), rows := updF S.rows c ys, cur := cu } := by
  have hk : ∀ {c : Nat}, c < 5 → k ∉ S.rows c := fun hc => hR.notin hx (.inl hs) hc
  refine ⟨rfl, rfl, hcu, rfl, fun j hj => if_neg hj, fun y hy => ?_, ⟨fun d hd => ?_, fun d hd j hj => ?_⟩⟩
  · have hy' : updI S.bl k (some ⟨x.size, x.asked, 3⟩) k = some y := hy
    unfold updI at hy'
    rw [if_pos rfl] at hy'
    cases hy'
    exact ⟨rfl, x, hx, rfl, rfl⟩
  · show (updF S.rows c ys d).Nodup
    unfold updF
    split
    · refine hp.nodup_iff.2 (List.nodup_append.2 ⟨hR.nd c hc, by simp, fun a ha b hb e => ?_⟩)
      simp only [List.mem_singleton] at hb
      subst hb; subst e
      exact hk hc ha
    · exact hR.nd d hd
  · have hj' : j ∈ updF S.rows c ys d := hj
    show ∃ x', updI S.bl k _ j = some x' ∧ _
    unfold updI
    by_cases e : j = k
    · rw [if_pos e]; exact ⟨_, rfl, .inr rfl⟩
    · rw [if_neg e]
      unfold updF at hj'
      split at hj'
      · have := hp.mem_iff.1 hj'
        simp only [List.mem_append, List.mem_singleton] at this
        rcases this with h | h
        · exact hR.free c hc j h
        · exact absurd h e
      · exact hR.free d hd j hj'
theorem Opened.great {S : ArS} {k : Int} {x : Bl} (hR : RowsOk S) (hx : S.bl k = some x) (hs : x.state = 2) (pg : Nat → Bool) (R : Runs) : Opened S k { S with bl := updI S.bl k none, pg := pg, R := R } := by
  refine ⟨rfl, rfl, rfl, rfl, fun j hj => if_neg hj, fun y hy => ?_, ⟨hR.nd, fun d hd j hj => ?_⟩⟩
  · have hy' : updI S.bl k none k = some y := hy
    unfold updI at hy'
    rw [if_pos rfl] at hy'
    cases hy'
  · show ∃ x', updI S.bl k none j = some x' ∧ _
    unfold updI
    rw [if_neg (fun e => hR.notin hx (.inl hs) hd (by rw [← e]; exact hj))]
    exact hR.free d hd j hj
theorem updI_twice {α : Type} (f : Int → α) (k : Int) (a b : α) : updI (updI f k a) k b = updI f k b := by
  funext i; unfold updI; split <;> rfl
set_option maxRecDepth 100000 in
set_option maxHeartbeats 1000000 in
theorem open_any {o : Own} {r p : Nat} {S : ArS} (k : Int) (a : Nat) (x : Bl) (w : World) (ho : Owned o w) (A : ArenaRep o w r p S) (ok : ArOk S) (hR : RowsOk S) (hk : k = (a : Nat)) (hx : S.bl k = some x) (hs : x.state = 2) :
    Calls Tryz.prog 196 #[.pointer (some ⟨p, 0, none⟩), .int .i64 k] w (OpenPost o w r p S k) := by
  obtain ⟨a', ha', h64, hsz, _, hs2⟩ := ok.nat k x hx
  obtain rfl : a' = a := by omega
  obtain ⟨g, q, l, b, v, f, A⟩ := A
  have hn4 := A.n1
  have htn := ok.tn
  obtain ⟨ba, hfa, hB⟩ := A.f_of hx
  have hl := A.look k false
  rw [hfa] at hl
  simp only [Option.map_some, Option.getD_some, Bool.false_eq_true, if_false] at hl
  have c3 := A.c3
  have d0 := hB.cell 0
  have d2 := hB.cell 2
  have f2 := hB.free 2
  unfold blCells at d0 d2
  simp only [List.getElem?_toArray, List.getElem?_cons_zero, List.getElem?_cons_succ] at d0 d2
  have hpb : ¬ p = ba := fun e => by have h1 := A.blk.1; have h2 := hB.1; rw [e] at h1; omega
  -- behind the store of the state
  have hx2 : (w.setCell ⟨ba, 2, none⟩ (.int .i64 3)).heap[ba]? = some (.cells (blCells ⟨x.size, x.asked, 3⟩) 169 (0, 0)) := heap_set hB.2 2 _
  have hT := A.reblk ho hfa ⟨x.size, x.asked, 3⟩ (OnlyBlk.set w ba 2 _) hx2
  have HT := Lib.hid hT
  have hsz1 : ((x.size : Nat) : Int) - 1 = ((x.size - 1 : Nat) : Int) := by omega
  have HS := Lib.hid (fun (W : World) => show Calls Tryz.prog 158 #[.int .i64 ((x.size : Int) - 1)] W fun e w' => e = .returned (.tuple #[.int .i64 (classN (x.size - 1) : Nat), .int .i64 (sizeN (x.size - 1) : Nat)]) ∧ W = w' from by rw [hsz1]; exact sizes_any (x.size - 1) W (by omega) (by omega))
  have hle := class_le (x.size - 1)
  have c1 := A.c1
  have hdiv : ((a' : Nat) : Int).tdiv 64 = ((a' / 64 : Nat) : Int) := by rw [Int.tdiv_eq_ediv_of_nonneg (by omega)]; omega
  have hka : (0 : Int) ≤ (a' : Int) := by omega
  have hka2 : (a' : Int) ≤ 262144 := by omega
  have hrl := fun (c : Nat) (hc : c < 5) => hR.len ok hn4.2 hc
  have hsz0 : (2 : Int) ≤ (x.size : Int) := by omega
  have hsz3 : (x.size : Int) ≤ 262144 := by omega
  subst hk
  by_cases h5 : classN (x.size - 1) = 5
  · have hO : ∀ pg R, Opened S ((a' : Nat) : Int) { S with bl := updI S.bl ((a' : Nat) : Int) none, pg := pg, R := R } := fun pg R => Opened.great hR hx hs pg R
    have HO := Lib.hid hO
    have HA := Lib.hid A
    rw [h5] at HS
    have hg := Lib.hid (fun (w1 : World) (ho1 : Owned o w1) (P : PagesRep o w1 (r + 9) q S.n S.pg S.R) => give_any (((a' : Nat) : Int) / 64) (a' / 64) (by omega) w1 ho1 P)
    clear A hB hfa hx hs ok hR hT hsz1 hle hrl hO h5 ho htn hn4 h64 ha' hsz hs2 hx2
    generalize x.size = sz at *
    generalize sizeN (sz - 1) = szn at *
    have HD := Lib.hid hdiv
    clear hdiv
    go_enter Tryz.func196, Tryz.ntmps196
    go_wp2_with fail
    go_at_call 158
    refine (HS.out _).mono ?_
    rintro e w1 ⟨rfl, rfl⟩
    go_wp2_with fail
    go_at_call 213
    refine (hg.out _ HT.out.1.fresh HT.out.2.pages).mono ?_
    rintro e w2 ⟨⟨bb, rfl⟩, F2, pg, R, P2⟩
    obtain ⟨F3, A3⟩ := HT.out.2.paged F2 P2 S.t S.cur
    have c3' := A3.c3
    have HA3 := Lib.hid A3
    have HF3 := Lib.hid (HT.out.1.trans F3)
    clear F2 P2 F3 A3 c3 c1
    go_wp2_with (at_delete; refine wpList_delete_is _ rfl _ _ 117 3 rfl 167 Tryz.underlying117 Tryz.underlying3 b _ (by exact HA3.out.map.2) rfl ((a' : Nat) : Int) rfl ?_; intro w4 hm4 ht4; have HT4 := Lib.hid (HA3.out.del HF3.out.fresh ((a' : Nat) : Int) hm4 ht4); clear hm4 ht4)
    go_end0
    refine ⟨rfl, o, _, HF3.out.trans HT4.out.1, ⟨_, _, _, _, _, _, HT4.out.2⟩, ?_⟩
    have := HO.out pg R
    rw [← updI_twice S.bl ((a' : Nat) : Int) (some ⟨sz, x.asked, 3⟩) none] at this
    exact this
  · have hc : classN (x.size - 1) < 5 := by omega
    have hO : ∀ ys cu, ys.Perm (S.rows (classN (x.size - 1)) ++ [((a' : Nat) : Int)]) → cu = S.cur → Opened S ((a' : Nat) : Int) { S with bl := updI S.bl ((a' : Nat) : Int) (some ⟨x.size, x.asked, 3⟩), rows := updF S.rows (classN (x.size - 1)) ys, cur := cu } := fun ys cu hp hcu => Opened.small hR hx hs hc hp cu hcu
    have HO := Lib.hid hO
    have hps := Lib.hid (HT.out.2.pushed HT.out.1.fresh hc ((a' : Nat) : Int) (by have := hrl _ hc; show (S.rows (classN (x.size - 1))).length < _; omega))
    have hne : ((classN (x.size - 1) : Int) == 5) = false := by simp; omega
    have hcn : (classN (x.size - 1) : Int) < 5 := by omega
    have d4 := HT.out.2.fp 0
    clear A hB hfa hx hs ok hR hT hsz1 hle hrl hO ho htn hn4 h64 ha' hsz hs2 hx2 hc h5 hdiv
    generalize x.size = sz at *
    generalize sizeN (sz - 1) = szn at *
    generalize classN (sz - 1) = cl at *
    go_enter Tryz.func196, Tryz.ntmps196
    go_wp2_with fail
    go_at_call 158
    refine (HS.out _).mono ?_
    rintro e w1 ⟨rfl, rfl⟩
    go_wp2_with fail
    go_at_call 173
    refine hps.out.mono ?_
    rintro e w5 ⟨rfl, ys, o5, v5, hys, _, F5, A5⟩
    have HF5 := Lib.hid (HT.out.1.trans F5)
    have HA5 := Lib.hid (A5 S.cur)
    have HO5 := Lib.hid (HO.out ys S.cur hys rfl)
    clear F5 A5 hys
    go_wp2_with fail
    go_end0
    exact ⟨rfl, o5, _, HF5.out, ⟨_, _, _, _, _, _, HA5.out⟩, HO5.out⟩
theorem opens_one {o : Own} {r p : Nat} {S : ArS} (k : Int) (a : Nat) (x : Bl) (A1 : Option Addr) (cap B : Nat) (w : World) (ho : Owned o w) (A : ArenaRep o w r p S) (ok : ArOk S) (hR : RowsOk S) (hk : k = (a : Nat)) (hx : S.bl k = some x) (hs : x.state = 2) (hl : RdS w B .i64 A1 1 [k]) :
    Calls Tryz.prog 160 #[.pointer (some ⟨p, 0, none⟩), .slice A1 1 cap] w (OpenPost o w r p S k) := by
  have HO := Lib.hid (open_any k a x w ho A ok hR hk hx hs)
  obtain ⟨b1, f1, h1, _, hc1⟩ := hl.at_ (i := 0) (by omega)
  have hc1' : w.cell? ⟨b1, f1, none⟩ = some (.int .i64 k) := hc1
  subst h1
  clear hc1 A ok hR hk hx hs hl ho
  go_enter Tryz.func160, Tryz.ntmps160
  go_wp2_with fail
  refine wp_loop_rounds 2 ?_
  rw [rounds_succ]
  go_wp2_with fail
  go_at_call 196
  refine HO.out.mono ?_
  rintro e w1 ⟨rfl, o1, S1, F1, A1, O1⟩
  have H := Lib.hid (And.intro F1 (And.intro A1 O1))
  clear F1 A1 O1
  go_wp2_with fail
  rw [rounds_succ]
  go_wp2_with fail
  go_end0
  exact ⟨rfl, o1, S1, H.out.1, H.out.2.1, H.out.2.2⟩
end Go.Proofs.YtlpklloagaccoaaGreat
namespace Go.Proofs.YtlpklloagaccoaaGreat
open Go.RowKit
set_option linter.unusedVariables false

theorem of_any {o : Own} {r p : Nat} {S : ArS} {g q l b : Nat} {v : Nat → Value} {f : Int → Option Nat} (ki : Int) (a ba : Nat) (x : Bl) (w : World) (A : Arena o w r p S g q l b v f) (hk : ki = a) (hfa : f ki = some ba) (hx : S.bl ki = some x) (hr : a + x.size ≤ S.n * 64) (h0 : 0 < x.size) :
    Calls Tryz.prog 200 #[.pointer (some ⟨p, 0, none⟩), .int .i64 ki, .pointer (some ⟨ba, 0, none⟩)] w fun e w' => e = .returned (.slice (some ⟨g, a, none⟩) x.size (S.n * 64 - a)) ∧ ∃ n, w' = w.drewN n := by
  subst hk
  obtain ⟨a', ha', B⟩ := A.f_of hx
  rw [hfa] at ha'
  obtain rfl : ba = a' := by simpa using ha'
  have d0 := B.cell 0
  unfold blCells at d0
  simp only [List.getElem?_toArray, List.getElem?_cons_zero] at d0
  have c0 := A.c0
  have hn4 := A.n1
  have h1 : (a : Int) + (x.size : Int) ≤ ((S.n * 64 : Nat) : Int) := by omega
  have h2 : S.n * 64 ≤ 262144 := by omega
  have hna : ¬ S.n * 64 = a := by omega
  clear A hfa hx ha' B hn4 h0
  generalize S.n * 64 = N at *
  generalize x.size = sz at *
  go_enter Tryz.func200, Tryz.ntmps200
  go_wp2
  go_quiet (fail)
  go_wp2
  go_ret
  exact ⟨by simp, nq, rfl⟩
theorem kept_yes {o : Own} {r p : Nat} {S : ArS} {g q l b : Nat} {v : Nat → Value} {f : Int → Option Nat} (ki : Int) (a ba : Nat) (x : Bl) (w : World) (ho : Owned o w) (A : Arena o w r p S g q l b v f) (hk : ki = a) (hfa : f ki = some ba) (hx : S.bl ki = some x) (hr : a + x.size ≤ S.n * 64) (hs : x.asked ≤ x.size) (h0 : 0 < x.size)
    (hc : ∀ i, a + x.asked ≤ i → i < a + x.size → S.m i = canW (i : Int)) :
    Calls Tryz.prog 170 #[.pointer (some ⟨p, 0, none⟩), .int .i64 ki, .pointer (some ⟨ba, 0, none⟩)] w fun e w' => e = .returned (.bool true) ∧ ∃ n, w' = w.drewN n := by
  subst hk
  have hn4 := A.n1
  have HF := Lib.hid (fun (W : World) (F : Fr 0 0 o o w W) => of_any (a : Int) a ba x W (A.keep F (.inr (Nat.zero_le _))) rfl hfa hx hr h0)
  have hw : wholeB S.m (a + x.asked) (x.size - x.asked) ((a : Int) + (x.asked : Int)) false = true := by
    unfold wholeB
    rw [decide_eq_true_eq]
    intro i hi
    rw [hc (a + x.asked + i) (by omega) (by omega), if_neg (by decide)]
    congr 1
  have hw0 : wholeB S.m a 0 ((a : Int) + (x.asked : Int)) false = true := by
    unfold wholeB
    rw [decide_eq_true_eq]
    intro i hi
    omega
  have HW := Lib.hid (fun (cap : Nat) (W : World) (F : Fr 0 0 o o w W) => show Calls Tryz.prog 199 #[.slice (if S.n * 64 - a = x.asked then some ⟨g, a, none⟩ else some ⟨g, a + x.asked, none⟩) (x.size - x.asked) cap, .int .i64 ((a : Int) + (x.asked : Int)), .bool false] W fun e w' => e = .returned (.bool true) ∧ w' = W from by
    by_cases hz : S.n * 64 - a = x.asked
    · rw [if_pos hz, show x.size - x.asked = 0 by omega, ← hw0]
      exact (whole_any g (S.n * 64) a 0 cap S.m _ false W (A.keep F (.inr (Nat.zero_le _))).ws (by omega) (by omega) (by omega) (by omega)).mono fun _ _ h => ⟨h.1, h.2.symm⟩
    · rw [if_neg hz, ← hw]
      exact (whole_any g (S.n * 64) (a + x.asked) (x.size - x.asked) cap S.m _ false W (A.keep F (.inr (Nat.zero_le _))).ws (by omega) (by omega) (by omega) (by omega)).mono fun _ _ h => ⟨h.1, h.2.symm⟩)
  have HO := Lib.hid ho
  obtain ⟨a', ha', B⟩ := A.f_of hx
  rw [hfa] at ha'
  obtain rfl : ba = a' := by simpa using ha'
  have d1 := B.cell 1
  unfold blCells at d1
  simp only [List.getElem?_toArray, List.getElem?_cons_zero, List.getElem?_cons_succ] at d1
  have h1 : (x.asked : Int) ≤ (x.size : Int) := by omega
  have h2 : (a : Int) + (x.size : Int) ≤ 262144 := by omega
  have h3 : x.size ≤ S.n * 64 - a := by omega
  clear A hfa hx ha' B hn4 hw hw0 hc hr ho
  generalize S.n * 64 = N at *
  generalize x.size = sz at *
  generalize x.asked = sk at *
  go_enter Tryz.func170, Tryz.ntmps170
  go_wp2
  go_quiet ((first
    | (go_at_call 200; exact Calls.quiet_of (HF.out _ ((Fr.refl HO.out).drewN _)))
    | (go_at_call 199; exact Calls.quiet_of_same (HW.out _ _ ((Fr.refl HO.out).drewN _)))))
  go_wp2
  all_goals
    go_ret
    exact ⟨rfl, nq, rfl⟩
/-- While a block is written over. -/
def poiI (m : Nat → Nat) (a i : Nat) : Nat → Nat := fun j => if a ≤ j ∧ j < i then poiW j else m j
theorem poiI_succ (m : Nat → Nat) {a k : Nat} (h : a ≤ k) : updN (poiI m a k) k (poiW k) = poiI m a (k + 1) := by
  funext j
  unfold updN poiI
  by_cases h1 : j = k
  · subst h1; rw [if_pos rfl, if_pos (by omega)]
  · rw [if_neg h1]
    by_cases h2 : a ≤ j ∧ j < k
    · rw [if_pos h2, if_pos (by omega)]
    · rw [if_neg h2, if_neg (by omega)]
theorem poiI_zero (m : Nat → Nat) (a : Nat) : poiI m a a = m := by
  funext j; unfold poiI; rw [if_neg (by omega)]
theorem poiW_lt (a : Int) : poiW a < 2 ^ 64 := by
  have := xor_range (IntKind.u64.wrap a) 16045690675887209166
  unfold poiW
  omega
/-- What a block that was freed leaves. -/
structure Freed (S : ArS) (k : Int) (a sz : Nat) (S' : ArS) : Prop where
  n : S'.n = S.n
  t : S'.t = S.t
  cur : S'.cur = S.cur
  m : ∀ i, ¬ (a ≤ i ∧ i < a + sz) → S'.m i = S.m i
  oth : ∀ j, j ≠ k → S'.bl j = S.bl j
  at_ : ∀ y, S'.bl k = some y → y.state = 3 ∧ y.size = sz ∧ y.asked ≤ sz
  rows : RowsOk S'
def FreePost (o : Own) (w : World) (r p : Nat) (S : ArS) (k : Int) (a sz : Nat) (e : Ending) (w' : World) : Prop :=
  e = .returned (.int .i64 0) ∧ ∃ o' S', Fr r (r + 15) o o' w w' ∧ ArenaRep o' w' r p S' ∧ Freed S k a sz S'
theorem Freed.ok {S S' : ArS} {k : Int} {a sz : Nat} (F : Freed S k a sz S') (h : ArOk S) {x : Bl} (hx : S.bl k = some x) (hs : x.size = sz) : ArOk S' := by
  have hb : ∀ j y, S'.bl j = some y → ∃ z, S.bl j = some z ∧ z.size = y.size ∧ y.asked ≤ y.size := fun j y hy => by
    by_cases e : j = k
    · subst e
      obtain ⟨_, h2, h3⟩ := F.at_ y hy
      exact ⟨x, hx, by omega, by omega⟩
    · rw [F.oth j e] at hy
      obtain ⟨_, _, _, _, h4, _⟩ := h.nat j y hy
      exact ⟨y, hy, rfl, h4⟩
  refine ⟨by rw [F.n, F.t]; exact h.tn, fun j y hy => ?_, fun j j' y y' hy hy' hlt => ?_⟩
  · obtain ⟨z, h1, h2, h3⟩ := hb j y hy
    obtain ⟨a', e1, e2, e3, e4, e5⟩ := h.nat j z h1
    exact ⟨a', e1, e2, by rw [F.t]; omega, h3, by omega⟩
  · obtain ⟨z, h1, h2, _⟩ := hb j y hy
    obtain ⟨z', h1', h2', _⟩ := hb j' y' hy'
    have := h.disj j j' z z' h1 h1' hlt
    omega
theorem Arena.lined {o o' : Own} {w w' : World} {r p : Nat} {S : ArS} {g q l b : Nat} {v : Nat → Value} {f : Int → Option Nat} (A : Arena o w r p S g q l b v f) (F : Fr (r + 13) (r + 15) o o' w w') (L : LineRep o' w' (r + 13) l) : Arena o' w' r p S g q l b v f :=
  ⟨A.blk.keep F (by omega), (F.own g A.ws.lt).trans A.gown, A.ws.of_eq (F.block g A.ws.lt (by rw [A.gown]; omega)), A.mlt, A.map.keep F (by omega), A.bnone, fun y a hy => let ⟨z, h1, h2⟩ := A.bsome y a hy; ⟨z, h1, h2.keep F (by omega)⟩, A.inj,
    fun c hc => ((A.row c hc).keepA (A.rown c hc) F (by omega)).1, fun c hc => ((A.row c hc).keepA (A.rown c hc) F (by omega)).2, A.pages.keep F (by omega), L, A.n1⟩
theorem ArOk.state {S : ArS} (h : ArOk S) {k : Int} {x : Bl} (hb : S.bl k = some x) (st : Nat) (m : Nat → Nat) : ArOk { S with m := m, bl := updI S.bl k (some ⟨x.size, x.asked, st⟩) } := by
  refine ⟨h.tn, fun j y hk => ?_, fun j j' y y' hk hk' hlt => ?_⟩
  · revert hk
    show updI S.bl _ _ j = some y → ∃ b : Nat, j = (b : Int) ∧ 64 ≤ b ∧ b + y.size ≤ S.t * 64 ∧ _
    unfold updI
    split
    · rename_i e; subst e
      intro e; cases e
      obtain ⟨b, h1, h2, h3, h4⟩ := h.nat _ _ hb
      exact ⟨b, h1, h2, h3, h4⟩
    · exact h.nat j y
  · revert hk hk'
    show updI S.bl _ _ j = some y → updI S.bl _ _ j' = some y' → _
    unfold updI
    split
    · rename_i e; subst e
      intro e; cases e
      split
      · omega
      · intro e; exact h.disj _ _ x _ hb e hlt
    · intro e
      split
      · rename_i e'; subst e'
        intro e'; cases e'
        exact h.disj _ _ _ x e hb hlt
      · intro e'; exact h.disj _ _ _ _ e e' hlt
theorem RowsOk.state {S : ArS} (h : RowsOk S) {k : Int} {x : Bl} (hb : S.bl k = some x) (hs : x.state = 1) (y : Bl) (m : Nat → Nat) : RowsOk { S with m := m, bl := updI S.bl k (some y) } := by
  refine ⟨h.nd, fun c hc j hj => ?_⟩
  show ∃ z, updI S.bl k (some y) j = some z ∧ _
  unfold updI
  rw [if_neg (fun e => h.notin hb (.inr hs) hc (by rw [← e]; exact hj))]
  exact h.free c hc j hj
theorem Freed.of_open {S S' : ArS} {k : Int} {a : Nat} {x : Bl} (O : Opened { S with m := poiI S.m a (a + x.size), bl := updI S.bl k (some ⟨x.size, x.asked, 2⟩) } k S') (hs : x.asked ≤ x.size) : Freed S k a x.size S' := by
  refine ⟨O.n, O.t, O.cur, fun i hi => ?_, fun j hj => ?_, fun y hy => ?_, O.rows⟩
  · rw [O.m]; exact if_neg hi
  · rw [O.oth j hj]; exact if_neg hj
  · obtain ⟨h1, z, h2, h3, h4⟩ := O.at_ y hy
    have h2' : updI S.bl k (some ⟨x.size, x.asked, 2⟩) k = some z := h2
    unfold updI at h2'
    rw [if_pos rfl] at h2'
    cases h2'
    exact ⟨h1, h3, by simp only at h4; omega⟩
def FreeRel (o1 : Own) (w1 : World) (r p : Nat) (T : ArS) (a i : Nat) (g q l b : Nat) (v : Nat → Value) (f : Int → Option Nat) (wr : World) : Prop :=
  Fr r (r + 15) o1 o1 w1 wr ∧ Arena o1 wr r p { T with m := poiI T.m a i } g q l b v f
theorem poison_int (ii : Int) (i : Nat) (e : ii = i) (w : World) : Calls Tryz.prog 171 #[.int .i64 ii] w fun e w' => e = .returned (.int .u64 (poiW i : Nat)) ∧ w = w' := by
  subst e; exact poison_any _ w
set_option maxRecDepth 100000 in
set_option maxHeartbeats 2000000 in
theorem afree_yes {o : Own} {r p : Nat} {S : ArS} (ki : Int) (a : Nat) (x : Bl) (w : World) (ho : Owned o w) (A : ArenaRep o w r p S) (ok : ArOk S) (hR : RowsOk S) (hk : ki = a) (hx : S.bl ki = some x) (hs : x.state = 1)
    (hc : ∀ i, a + x.asked ≤ i → i < a + x.size → S.m i = canW (i : Int)) :
    Calls Tryz.prog 115 #[.pointer (some ⟨p, 0, none⟩), .int .i64 ki] w (FreePost o w r p S ki a x.size) := by
  obtain ⟨a', ha', h64, hsz, hask, hs2⟩ := ok.nat ki x hx
  obtain rfl : a' = a := by omega
  subst hk
  have htn := ok.tn
  obtain ⟨g, q, l, b, v, f, A⟩ := A
  have hn4 := A.n1
  obtain ⟨ba, hfa, hB⟩ := A.f_of hx
  have HU := Lib.hid (used_yes (a' : Int) ba x w A hfa hx hs)
  have HK := Lib.hid (fun (n : Nat) => kept_yes (a' : Int) a' ba x (w.drewN n) (show Owned o (w.drewN n) from ho) (A.keep ((Fr.refl (lo := 0) (hi := 0) ho).drewN n) (.inr (Nat.zero_le _))) rfl hfa hx (by omega) hask (by omega) hc)
  have HA := Lib.hid A
  have HO := Lib.hid ho
  have HX := Lib.hid hx
  have HST := Lib.hid hs
  have HAK := Lib.hid hask
  have HFA := Lib.hid hfa
  have HOK := Lib.hid ok
  have HR := Lib.hid hR
  have hpb : ¬ p = ba := fun e => by have h1 := A.blk.1; have h2 := hB.1; rw [e] at h1; omega
  have hN3 : (a' : Int) + (x.size : Int) ≤ 262144 := by omega
  have HN := Lib.hid (show a' + x.size ≤ S.n * 64 by omega)
  have HS := Lib.hid hs2
  clear A hB hx hfa ok hR hs ho hc htn h64 hsz hs2 hn4 ha' hask
  go_enter Tryz.func115, Tryz.ntmps115
  go_wp2_with fail
  go_at_call 164
  refine HU.out.mono ?_
  rintro e w1 ⟨rfl, n1, rfl⟩
  go_wp2_with fail
  go_at_call 170
  refine (HK.out n1).mono ?_
  rintro e w1 ⟨rfl, n2, rfl⟩
  have HA2 := Lib.hid (show Arena o ((w.drewN n1).drewN n2) r p S g q l b v f from HA.out.keep (((Fr.refl (lo := 0) (hi := 0) HO.out).drewN n1).drewN n2) (.inr (Nat.zero_le _)))
  have HF2 := Lib.hid (show Fr r (r + 15) o o w ((w.drewN n1).drewN n2) from ((Fr.refl HO.out).drewN n1).drewN n2)
  generalize (w.drewN n1).drewN n2 = w2 at *
  have HR0 := Lib.hid (show FreeRel o w2 r p S a' a' g q l b v f w2 from ⟨Fr.refl HF2.out.fresh, by rw [poiI_zero]; exact HA2.out⟩)
  go_wp2_with fail
  go_loopw [7] (fun iv wr => ∃ k : Nat, a' ≤ k ∧ k ≤ a' + x.size ∧ iv = .int .i64 k ∧ FreeRel o w2 r p S a' k g q l b v f wr) (fun iv _ => a' + x.size - (intOf iv).toNat)
  case atStart => exact ⟨a', by omega, by omega, rfl, HR0.out⟩
  case round =>
    obtain ⟨k, hk1, hk2, rfl, F4, A4⟩ := hrel
    have hB := HX.out
    obtain ⟨ba', hfa', B4⟩ := A4.f_of (k := (a' : Int)) (x := x) hB
    rw [HFA.out] at hfa'
    obtain rfl : ba = ba' := by simpa using hfa'
    have d0 := B4.cell 0
    have d2 := B4.cell 2
    have g2 := B4.free 2
    unfold blCells at d0 d2
    simp only [List.getElem?_toArray, List.getElem?_cons_zero, List.getElem?_cons_succ] at d0 d2
    by_cases hk : k < a' + x.size
    · have hk' : (k : Int) < (a' : Int) + (x.size : Int) := by omega
      have hkN : k < S.n * 64 := by have := HN.out; omega
      have hkN' : (k : Int) < ((S.n * 64 : Nat) : Int) := by omega
      have e1 : wr.cell? ⟨p, 0, none⟩ = some (.slice (some ⟨g, 0, none⟩) (S.n * 64) (S.n * 64)) := A4.c0
      have e2 := A4.cw (i := k) hkN
      have e3 := A4.ws.free k
      have HW4 := Lib.hid (A4.write F4.fresh k (poiW k) (poiW_lt k))
      have HF4 := Lib.hid F4
      clear A4 F4 B4 hfa' hB
      generalize ({ S with m := poiI S.m a' k } : ArS).m k = y at e2
      generalize S.n * 64 = N at *
      go_wp2_with fail
      go_region_with (go_at_call 171; refine (poison_int _ k rfl _).mono ?_; rintro e w5 ⟨rfl, rfl⟩)
      all_goals
        have HREL : FreeRel o w2 r p S a' (k + 1) g q l b v f (wr.setCell ⟨g, k, none⟩ (.int .u64 (poiW k : Nat))).drew := by
          refine ⟨(HF4.out.trans HW4.out.1).drew, ?_⟩
          have h := HW4.out.2.keep ((Fr.refl (lo := 0) (hi := 0) HW4.out.1.fresh).drew) (.inr (Nat.zero_le _))
          exact h.congr rfl (poiI_succ _ hk1).symm rfl (fun _ _ => rfl) (fun _ _ => rfl) h.pages
        have HRH := Lib.hid HREL
        clear HREL
        go_wp2_with fail
        exact ⟨⟨k + 1, by omega, by omega, by go_num, HRH.out⟩, by simp [intOf]; omega⟩
    · have hk' : ¬ (k : Int) < (a' : Int) + (x.size : Int) := by omega
      obtain rfl : k = a' + x.size := by omega
      go_wp2_with fail
      have hx2 : (wr.setCell ⟨ba, 2, none⟩ (.int .i64 2)).heap[ba]? = some (.cells (blCells ⟨x.size, x.asked, 2⟩) 169 (0, 0)) := heap_set B4.2 2 _
      obtain ⟨F5, A5⟩ := A4.reblk F4.fresh HFA.out ⟨x.size, x.asked, 2⟩ (OnlyBlk.set wr ba 2 _) hx2
      have k2 := A5.c2
      have k0 : (wr.setCell ⟨ba, 2, none⟩ (.int .i64 2)).cell? ⟨ba, 0, none⟩ = some (.int .i64 (x.size : Nat)) := by simp only [World.cell?, hx2]; rfl
      have HF5 := Lib.hid ((HF2.out.trans F4).trans F5)
      have HA5 := Lib.hid A5
      have hsz : 1 ≤ x.size ∧ x.size ≤ 262144 := by have := HS.out; omega
      have HAd := Lib.hid (fun (W : World) (F : Fr 0 0 o o (wr.setCell ⟨ba, 2, none⟩ (.int .i64 2)) W) => show Calls Tryz.prog 172 #[.pointer (some ⟨l, 0, none⟩), .int .i64 (a' : Nat), .int .i64 (x.size : Nat)] W fun e w' => ∃ v o', e = .returned v ∧ Fr (r + 13) (r + 15) o o' W w' ∧ LineRep o' w' (r + 13) l ∧ RowNew W o' w' v [((a' : Nat) : Int)] from
        ladd_any (a' : Int) x.size W F.fresh (A5.line.keep F (.inr (Nat.zero_le _))) hsz.1 (by omega))
      have HOp := Lib.hid (fun (W w6 : World) (o6 : Own) (v6 : Value) (F : Fr 0 0 o o (wr.setCell ⟨ba, 2, none⟩ (.int .i64 2)) W) (F6 : Fr (r + 13) (r + 15) o o6 W w6) (L6 : LineRep o6 w6 (r + 13) l) (R6 : RowNew W o6 w6 v6 [((a' : Nat) : Int)]) => show ∃ A1 cap, v6 = .slice A1 1 cap ∧ Calls Tryz.prog 160 #[.pointer (some ⟨p, 0, none⟩), v6] w6 (OpenPost o6 w6 r p { S with m := poiI S.m a' (a' + x.size), bl := updI S.bl ((a' : Nat) : Int) (some ⟨x.size, x.asked, 2⟩) } ((a' : Nat) : Int)) from by
        obtain ⟨A1, cap, hv, hR1⟩ := R6.row.rd
        refine ⟨A1, cap, hv, ?_⟩
        have A6 : ArenaRep o6 w6 r p { S with m := poiI S.m a' (a' + x.size), bl := updI S.bl ((a' : Nat) : Int) (some ⟨x.size, x.asked, 2⟩) } :=
          ⟨_, _, _, _, _, _, (A5.keep F (.inr (Nat.zero_le _))).lined F6 L6⟩
        have okk : ArOk { S with m := poiI S.m a' (a' + x.size), bl := updI S.bl ((a' : Nat) : Int) (some ⟨x.size, x.asked, 2⟩) } := HOK.out.state HX.out 2 _
        have hrr : RowsOk { S with m := poiI S.m a' (a' + x.size), bl := updI S.bl ((a' : Nat) : Int) (some ⟨x.size, x.asked, 2⟩) } := HR.out.state HX.out HST.out _ _
        rw [hv]
        exact opens_one ((a' : Nat) : Int) a' ⟨x.size, x.asked, 2⟩ A1 cap _ w6 F6.fresh A6 okk hrr rfl (if_pos rfl) rfl hR1)
      clear A4 F4 B4 F5 A5 hfa' hB hx2 d0 d2 g2
      generalize wr.setCell ⟨ba, 2, none⟩ (.int .i64 2) = W5 at *
      go_region_with (first
        | (go_at_call 172; refine (HAd.out _ (by repeat (first | exact Fr.refl HF5.out.fresh | refine Fr.drew ?_ | refine Fr.alloc ?_ _))).mono ?_; rintro e w6 ⟨v6, o6, rfl, F6, L6, R6⟩; obtain ⟨A6, cap6, rfl, HO6⟩ := HOp.out _ w6 o6 v6 (by repeat (first | exact Fr.refl HF5.out.fresh | refine Fr.drew ?_ | refine Fr.alloc ?_ _)) F6 L6 R6; have HF6 := Lib.hid F6; have HO6 := Lib.hid HO6; clear F6 L6 R6)
        | (go_at_call 160; refine HO6.out.mono ?_; rintro e w7 ⟨rfl, o7, S7, F7, A7, O7⟩; have H7 := Lib.hid (And.intro F7 (And.intro A7 O7)); clear F7 A7 O7))
      all_goals
        go_wp2_with fail
        go_ret
        refine ⟨rfl, o7, S7, (HF5.out.trans (((Fr.refl HF5.out.fresh).drew).trans (HF6.out.mono (by omega) (by omega)))).trans H7.out.1, H7.out.2.1, ?_⟩
        exact Freed.of_open H7.out.2.2 HAK.out
end Go.Proofs.YtlpklloagaccoaaGreat
namespace Go.Proofs.YtlpklloagaccoaaGreat
open Go.RowKit
set_option linter.unusedVariables false

theorem SpOk.freed {S : ArS} {ob : Int → Option Ob} (h : SpOk ⟨S, ob⟩) {k : Int} {x : Bl} {a : Nat} (hx : S.bl k = some x) (ha : k = a) {S' : ArS} (F : Freed S k a x.size S') : SpOk ⟨S', updI ob k none⟩ := by
  have hne : ∀ j y, S.bl j = some y → j ≠ k → ∀ i : Nat, j ≤ (i : Int) → (i : Int) < j + (y.size : Int) → ¬ (a ≤ i ∧ i < a + x.size) := fun j y hy hj i h1 h2 h3 => by
    rcases Int.lt_or_gt_of_ne hj with hlt | hlt
    · have := h.ok.disj _ _ _ _ hy hx hlt; omega
    · have := h.ok.disj _ _ _ _ hx hy hlt; omega
  refine ⟨F.ok h.ok hx rfl, fun j y hj => ?_, fun j y hj hs => ?_, fun j y hj hs i h1 h2 => ?_⟩
  · have hj' : updI ob k none j = some y := hj
    unfold updI at hj'
    by_cases e : j = k
    · rw [if_pos e] at hj'; cases hj'
    · rw [if_neg e] at hj'
      obtain ⟨b, sz, e1, e2, e3⟩ := h.loc j y hj'
      have e2' : S.bl j = _ := e2
      obtain ⟨_, _, _, _, e4, _⟩ := h.ok.nat _ _ e2
      simp only at e4
      refine ⟨b, sz, e1, (F.oth j e).trans e2', e3.congr fun i h1 h2 => F.m i (hne j _ e2' e i (by omega) (by simp only; omega))⟩
  · by_cases e : j = k
    · subst e
      have := (F.at_ y hj).1
      omega
    · have hj' : S.bl j = some y := (F.oth j e).symm.trans hj
      obtain ⟨z, hz⟩ := h.all j y hj' hs
      exact ⟨z, by show updI ob k none j = _; unfold updI; rw [if_neg e]; exact hz⟩
  · by_cases e : j = k
    · subst e
      have := (F.at_ y hj).1
      omega
    · have hj' : S.bl j = some y := (F.oth j e).symm.trans hj
      show S'.m i = _
      have h4 : S.m i = canW (i : Int) := h.can j y hj' hs i h1 h2
      rw [F.m i (hne j y hj' e i (by omega) h2)]
      exact h4
theorem AlOf.freed {L : Al} {S S' : ArS} (h : AlOf L S) {k : Int} {a sz : Nat} (F : Freed S k a sz S') : AlOf (shutL L) S' :=
  ⟨F.n.trans h.n, F.t.trans h.t, F.cur.trans h.cur, fun e => (by cases e), fun _ => F.rows⟩
set_option maxRecDepth 100000 in
set_option maxHeartbeats 1000000 in
theorem odrop_yes {o : Own} {r p : Nat} {L : Al} {ob : Int → Option Ob} (h : Int) (x : Ob) (w : World) (ho : Owned o w) (S : SpaceRep o w r p L ob) (hx : ob h = some x) :
    Calls Tryz.prog 63 #[.pointer (some ⟨p, 0, none⟩), .int .i64 h] w (SpPost o w r p (shutL L) (updI ob h none) (.int .i64 0)) := by
  have HHd := Lib.hid (fun (w1 : World) (F : Fr 0 0 o o w w1) => show Calls Tryz.prog 54 #[.pointer (some ⟨p, 0, none⟩), .int .i64 h] w1 fun e w' => ∃ (col2 : Nat) (z2 : Bool), e = .returned (.tuple #[hdV x.kind x.cells x.raw x.cnt col2 z2 false, .int .i64 0]) ∧ Fr 0 0 o o w w' from
    (ohead_yes h x w1 F.fresh (S.keep F (.inr (Nat.zero_le _))) hx).mono fun e w' h => by
      obtain ⟨c2, z2, _, h1, h2⟩ := h
      exact ⟨c2, z2, h1, F.below h2⟩)
  obtain ⟨pa, A, S⟩ := S
  obtain ⟨a, sz, ha, hbl, hat⟩ := S.ok.loc h x hx
  have hbl' : A.bl h = some ⟨sz, wordsN x.cells x.raw, 1⟩ := hbl
  have HFr := Lib.hid (fun (w1 : World) (F : Fr 0 0 o o w w1) => show Calls Tryz.prog 115 #[.pointer (some ⟨pa, 0, none⟩), .int .i64 h] w1 fun e w' => e = .returned (.int .i64 0) ∧ ∃ o', Fr r (r + 16) o o' w w' ∧ SpaceRep o' w' r p (shutL L) (updI ob h none) from
    (afree_yes h a ⟨sz, wordsN x.cells x.raw, 1⟩ w1 F.fresh (S.ar.keep F (.inr (Nat.zero_le _))) S.ok.ok S.al.rowsOk ha hbl' rfl (fun i h1 h2 => S.ok.can h _ hbl rfl i (by simp only; simp only at h1; omega) (by simp only; simp only at h2; omega))).mono fun e w' hh => by
      obtain ⟨h1, o', S', F2, A2, Fd⟩ := hh
      exact ⟨h1, o', (F.none r (r + 16)).trans (F2.mono (by omega) (by omega)), pa, S', (S.blk.keep F (.inr (Nat.zero_le _))).keep F2 (by omega), A2, S.ok.freed hbl' ha Fd, S.al.freed Fd⟩)
  have c0 := S.c0
  have hpl := S.blk.lt
  have HO := Lib.hid ho
  clear S ha hbl hbl' hat hx ho
  go_enter Tryz.func63, Tryz.ntmps63
  go_wp2_with fail
  go_at_call 54
  refine (HHd.out _ (by repeat (first | exact Fr.refl HO.out | refine Fr.drew ?_ | refine Fr.alloc ?_ _))).mono ?_
  rintro e w1 ⟨col, z, rfl, F1⟩
  have c1 := F1.cell0 c0
  have hp1 : p < w1.heap.size := Nat.lt_of_lt_of_le hpl F1.size
  have HF1 := Lib.hid F1
  clear F1 c0
  go_wp2_with fail
  go_at_call 115
  refine (HFr.out _ (by repeat (first | exact HF1.out | refine Fr.drew ?_ | refine Fr.alloc ?_ _ | refine Fr.setCell ?_ _ _ (.inr (by have := HF1.out.size; omega))))).mono ?_
  rintro e w2 ⟨rfl, o2, F2, S2⟩
  have H2 := Lib.hid (And.intro F2 S2)
  clear F2 S2
  go_wp2_with fail
  go_ret
  exact ⟨rfl, o2, H2.out.1, H2.out.2⟩
end Go.Proofs.YtlpklloagaccoaaGreat
