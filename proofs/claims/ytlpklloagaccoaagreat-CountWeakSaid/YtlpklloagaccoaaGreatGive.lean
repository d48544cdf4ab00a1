/- Pages are given back, and what waits goes at once (pages.Table.Give, line.Line.Add with a budget of nothing). Conditions: as ones that were made. -/
import Derived.Test.YtlpklloagaccoaaGreatArNew
import Derived.Test.YtlpklloagaccoaaGreatSl
import Derived.Deep.AppendSrc
import Derived.Outline
namespace Go.Proofs.YtlpklloagaccoaaGreat
open Go.RowKit
set_option linter.unusedVariables false

theorem zero_run (w : World) : (zeroValue 230).run Tryz.prog w = .ok (.agg #[.int .i64 0, .int .i64 0, .int .i64 0]) w := by kernel_rfl
theorem Pages.look {o : Own} {w : World} {r p n : Nat} {S : Nat → Bool} {R : Runs} {q b : Nat} (P : Pages o w r p n S R q b) (k : Int) :
    (Instr.lookup 195 (.map (some b)) (.int .i64 k) true).run Tryz.prog w = .ok (.tuple #[((R k).map runV).getD (.agg #[.int .i64 0, .int .i64 0, .int .i64 0]), .bool ((R k).map runV).isSome]) w := by
  rw [MapIs.lookup P.map.2 Tryz.underlying195 Tryz.underlying3 zero_run true k]
  rfl
theorem Pages.del {o : Own} {w w' : World} {r p n : Nat} {S : Nat → Bool} {R : Runs} {q b : Nat} (P : Pages o w r p n S R q b) (ho : Owned o w) (k : Int)
    (hm : MapIs w' b (fun j => if j = k then none else (R j).map runV)) (ht : MapTurn w w' b) : Fr r (r + 4) o o w w' ∧ Pages o w' r p n S (fun j => if j = k then none else R j) q b := by
  have F := ht.fr (lo := r + 3) (hi := r + 4) ho (by rw [P.map.1]; omega)
  refine ⟨F.mono (by omega) (by omega), P.blk.keep F (by omega), P.set.keep F (by omega), ⟨P.map.1, hm.congr fun j => ?_⟩, fun j x hj => ?_⟩
  · by_cases h : j = k
    · rw [if_pos h, if_pos h]; rfl
    · rw [if_neg h, if_neg h]
  · by_cases h : j = k
    · rw [if_pos h] at hj; cases hj
    · rw [if_neg h] at hj; exact P.rng j x hj
def GiveRel (o : Own) (w : World) (r p n q b : Nat) (wr : World) : Prop := Fr r (r + 4) o o w wr ∧ ∃ S R, Pages o wr r p n S R q b
/-- Behind Give. -/
def GivePost (o : Own) (w : World) (r p n : Nat) (e : Ending) (w' : World) : Prop := (∃ b, e = .returned (.bool b)) ∧ Fr r (r + 4) o o w w' ∧ ∃ S R, PagesRep o w' r p n S R
theorem bdrop_int {o : Own} {r p n : Nat} {S : Nat → Bool} (ii : Int) (i : Nat) (e : ii = i) (w : World) (ho : Owned o w) (B : BsetRep o w r p n S) (hi : i < n) :
    Calls Tryz.prog 229 #[.pointer (some ⟨p, 0, none⟩), .int .i64 ii] w fun e w' => ∃ v, FlipPost o w r p n (setS S i false) v e w' := by
  subst e
  exact (bdrop_any i w ho B hi).mono fun e w' h => ⟨_, h⟩
set_option maxRecDepth 100000 in
set_option maxHeartbeats 1000000 in
theorem give_any {o : Own} {r p n : Nat} {S : Nat → Bool} {R : Runs} (ii : Int) (i : Nat) (e : ii = i) (w : World) (ho : Owned o w) (P : PagesRep o w r p n S R) :
    Calls Tryz.prog 213 #[.pointer (some ⟨p, 0, none⟩), .int .i64 ii] w (GivePost o w r p n) := by
  subst e
  obtain ⟨q, b, P⟩ := P
  have hlk := P.look (i : Int)
  have c2 := P.blk.cell 2
  cases hR : R (i : Int) with
  | none =>
    rw [hR] at hlk
    simp only [Option.map_none, Option.getD_none, Option.isSome_none] at hlk
    have HP := Lib.hid P
    have HO := Lib.hid ho
    clear P ho hR
    go_enter Tryz.func213, Tryz.ntmps213
    go_wp2_with fail
    go_ret
    exact ⟨⟨_, rfl⟩, (Fr.refl HO.out).alloc _, S, R, q, b, HP.out.keep (lo := 0) (hi := 0) ((Fr.refl HO.out).alloc _) (.inr (Nat.zero_le _))⟩
  | some x =>
    obtain ⟨f, k, mk⟩ := x
    rw [hR] at hlk
    simp only [Option.map_some, Option.getD_some, Option.isSome_some, runV] at hlk
    have hrng := P.rng _ _ hR
    simp only at hrng
    have hle := P.set.le
    have HP := Lib.hid P
    have HO := Lib.hid ho
    clear P ho hR
    by_cases hf : f = i
    · subst hf
      go_enter Tryz.func213, Tryz.ntmps213
      go_wp2_with fail
      go_loopw [27] (fun jv wr => ∃ j : Nat, j ≤ k ∧ jv = .int .i64 j ∧ GiveRel o w r p n q b wr) (fun jv _ => k - (intOf jv).toNat)
      case atStart => exact ⟨0, by omega, rfl, by repeat (first | exact Fr.refl HO.out | refine Fr.drew ?_ | refine Fr.alloc ?_ _ | refine Fr.setCell ?_ _ _ (.inr (Nat.le_refl _))), S, R, HP.out.keep (lo := 0) (hi := 0) (o' := o) (by repeat (first | exact Fr.refl HO.out | refine Fr.drew ?_ | refine Fr.alloc ?_ _ | refine Fr.setCell ?_ _ _ (.inr (Nat.le_refl _)))) (.inr (Nat.zero_le _))⟩
      case round =>
        obtain ⟨j, hj, rfl, Fj, Sj, Rj, Pj⟩ := hrel
        have c1 := Pj.blk.cell 1
        have c2' := Pj.blk.cell 2
        simp only [List.getElem?_toArray, List.getElem?_cons_zero, List.getElem?_cons_succ] at c1 c2'
        have HPj := Lib.hid Pj
        have HFj := Lib.hid Fj
        clear Fj Pj c2 hlk
        by_cases hjk : j < k
        · have hjk' : (j : Int) < (k : Int) := by omega
          have HDr := Lib.hid (bdrop_int ((f : Int) + (j : Int)) (f + j) (by omega) wr HFj.out.fresh HPj.out.set (by omega))
          go_wp2_with fail
          go_at_call 229
          refine HDr.out.mono ?_
          rintro e w1 ⟨v1, rfl, F1, B1⟩
          have P1 : Pages o w1 r p n (setS Sj (f + j) false) Rj q b := ⟨HPj.out.blk.keep F1 (by omega), B1, HPj.out.map.keep F1 (by omega), HPj.out.rng⟩
          have c2 := P1.blk.cell 2
          simp only [List.getElem?_toArray, List.getElem?_cons_zero, List.getElem?_cons_succ] at c2
          have HP1 := Lib.hid P1
          have HF1 := Lib.hid (HFj.out.trans (F1.mono (by omega) (by omega)))
          clear P1 F1 B1 c1 c2'
          go_wp2_with (at_delete; refine wpList_delete_is _ rfl _ _ 195 3 rfl 230 Tryz.underlying195 Tryz.underlying3 b _ (by exact HP1.out.map.2) rfl ((f : Int) + (j : Int)) rfl ?_; intro w2 hm2 ht2; have HT2 := Lib.hid (HP1.out.del HF1.out.fresh ((f : Int) + (j : Int)) hm2 ht2); clear hm2 ht2)
          exact ⟨⟨j + 1, by omega, by go_num, HF1.out.trans HT2.out.1, _, _, HT2.out.2⟩, by simp [intOf]; omega⟩
        · have hjk' : ¬ (j : Int) < (k : Int) := by omega
          go_wp2_with fail
          go_ret
          exact ⟨⟨_, rfl⟩, HFj.out, Sj, Rj, q, b, HPj.out⟩
    · have hf' : ((f : Int) != (i : Int)) = true := by simp; omega
      go_enter Tryz.func213, Tryz.ntmps213
      go_wp2_with fail
      go_ret
      exact ⟨⟨_, rfl⟩, (Fr.refl HO.out).alloc _, S, R, q, b, HP.out.keep (lo := 0) (hi := 0) ((Fr.refl HO.out).alloc _) (.inr (Nat.zero_le _))⟩

theorem infoOne : (Tryz.prog.info? 205).map (fun i => (i.zero, i.size, i.bytes)) = some (some (.agg #[.int .i64 0, .int .i64 0]), 2, 16) := by kernel_rfl

/-- The line's row: nothing stands in it. -/
def LineV (o : Own) (w : World) (r : Nat) (v : Value) : Prop := v = .slice none 0 0 ∨ ∃ g a c cs, v = .slice (some ⟨g, a, none⟩) 0 c ∧ Blk o w (r + 1) g (.cells cs 205 (0, 0)) ∧ a + 2 * c ≤ cs.size ∧ c ≤ maxLen
theorem setCells_two (w : World) (g a : Nat) (x y : Value) : w.setCells g a [x, y] = (w.setCell ⟨g, a, none⟩ x).setCell ⟨g, a + 1, none⟩ y := rfl
/-- One of two words goes into it. -/
def LineIn (o : Own) (w : World) (r : Nat) (x y : Value) (v' : Value) (o' : Own) (w' : World) : Prop :=
  ∃ g a c cs, v' = .slice (some ⟨g, a, none⟩) 1 c ∧ Fr (r + 1) (r + 2) o o' w w' ∧ Blk o' w' (r + 1) g (.cells cs 205 (0, 0)) ∧ 1 ≤ c ∧ c ≤ maxLen ∧ a + 2 * c ≤ cs.size ∧ cs[a]? = some x ∧ cs[a + 1]? = some y
theorem run_append_line {o : Own} {w : World} {r : Nat} {v : Value} (ho : Owned o w) (h : LineV o w r v) (ad : Addr) (m : Nat) (x y : Value) (hx : x.oneCell' = true) (hy : y.oneCell' = true) (h0 : w.cell? (ad.add 0) = some x) (h1 : w.cell? (ad.add 1) = some y) (ty : TypeId) :
    ∃ v' o' w', (Builtin.append_ #[198, 198] ty #[v, .slice (some ad) 1 m]).run Tryz.prog w = .ok v' w' ∧ LineIn o w r x y v' o' w' := by
  obtain ⟨i, hi, hz, hs, hb⟩ := info_parts infoOne
  have hsrc : Src Tryz.prog i.size 198 (.slice (some ad) 1 m) 1 [x, y] w := Src.ofSlice w (e' := 205) Tryz.underlying198 ad 1 m [x, y] (by rw [hs]; rfl) (fun j u hj => by
    match j, hj with
    | 0, hj => simp at hj; subst hj; exact h0
    | 1, hj => simp at hj; subst hj; exact h1) (fun u hu => by
    simp only [List.mem_cons, List.not_mem_nil, or_false] at hu
    rcases hu with rfl | rfl
    · exact hx
    · exact hy)
  have grow : ∀ base c, c = 0 → ∃ v' o' w', (Builtin.append_ #[198, 198] ty #[.slice base 0 c, .slice (some ad) 1 m]).run Tryz.prog w = .ok v' w' ∧ LineIn o w r x y v' o' w' := by
    rintro base c rfl
    have hr := run_append_grow_src (P := Tryz.prog) w 198 198 ty 205 i _ Tryz.underlying198 hi hz base 0 0 [] (by cases base <;> simp [Builtin.firstCells, loadCells, loadCellsFrom]) _ 1 [x, y] hsrc (by omega) (by omega) (by rw [hb]; decide)
    refine ⟨_, o.give w.heap.size (r + 1), _, hr, ?_⟩
    have hge := grownCap_ge w (0 + 1) 0 205
    have hle := grownCap_le_maxLen w (0 + 1) 0 205 (by unfold maxLen; omega)
    refine ⟨w.heap.size, 0, _, _, rfl, ((Fr.refl (lo := r + 1) (hi := r + 2) ho).drew).give _ (r + 1), Blk.new (w := w.drew) _ (r + 1), by omega, hle, ?_, ?_, ?_⟩
    · simp [size_zeroCells, Value.cells]; omega
    · rw [Array.getElem?_append_left (by simp)]; rfl
    · rw [Array.getElem?_append_left (by simp)]; rfl
  rcases h with rfl | ⟨g, a, c, cs, rfl, hB, hc, hm⟩
  · exact grow none 0 rfl
  · rcases Nat.eq_zero_or_pos c with h0c | h0c
    · exact grow _ c h0c
    · have hr := run_append_room_src (P := Tryz.prog) w 198 198 ty 205 i Tryz.underlying198 hi g a 0 c _ 1 [x, y] hsrc (by omega) (fun j hj => by
        rw [hB.cell]
        have : j < 2 := hj
        rw [Nat.zero_mul, Nat.add_zero, Array.getElem?_eq_getElem (by omega)]; rfl) (fun j hj => hB.free _)
      rw [Nat.zero_mul, Nat.add_zero, setCells_two] at hr
      refine ⟨_, o, _, hr, g, a, c, _, rfl, ?_, (hB.set a x).set (a + 1) y, h0c, hm, by simpa using hc, ?_, ?_⟩
      · have hg : o g = r + 1 := hB.1
        exact ((Fr.refl ho).setCell _ _ (.inl ⟨by simp only [hg]; omega, by simp only [hg]; omega⟩)).setCell _ _ (.inl ⟨by simp only [hg]; omega, by simp only [hg]; omega⟩)
      · rw [Array.getElem?_setIfInBounds_ne (by omega), Array.getElem?_setIfInBounds_self_of_lt (by omega)]
      · rw [Array.getElem?_setIfInBounds_self_of_lt (by simp; omega)]
theorem cell_two_new (w : World) (x y : Value) (T : TypeId) : (w.alloc (.cells #[x, y] T)).cell? ((⟨w.heap.size, 0, none⟩ : Addr).add 0) = some x ∧ (w.alloc (.cells #[x, y] T)).cell? ((⟨w.heap.size, 0, none⟩ : Addr).add 1) = some y := by
  have h := heap_alloc_new w (.cells #[x, y] T)
  constructor
  · rw [add_spot]; simp only [World.cell?, h]; rfl
  · rw [add_spot]; simp only [World.cell?, h]; rfl
theorem wpList_append_line {ops : Array Oper} {rest : List Oper} {oo : Oper} {a : Act} {Q : Exit → Act → World → Prop} (w : World) (hgd : oo.guard = none) (s x : Operand)
    (hop : oo.op = .call { callee := .builtin .append, args := #[s, x], argTypes := #[198, 198] }) {o : Own} {r : Nat} (ho : Owned o w) {v : Value} (hs : a.eval s = v) (hv : LineV o w r v)
    {ad : Addr} {m : Nat} (hx : a.eval x = .slice (some ad) 1 m) (u1 u2 : Value) (h1 : u1.oneCell' = true) (h2 : u2.oneCell' = true) (c0 : w.cell? (ad.add 0) = some u1) (c1 : w.cell? (ad.add 1) = some u2)
    (hK : ∀ v' o' w', LineIn o w r u1 u2 v' o' w' → wpList Tryz.prog ops Q rest (a.put oo.dst v') w') : wpList Tryz.prog ops Q (oo :: rest) a w := by
  refine wpList_plain hgd fun K' hK' => ?_
  obtain ⟨v', o', w', hrun, hl⟩ := run_append_line ho hv ad m u1 u2 h1 h2 c0 c1 oo.type
  unfold Oper.wp execOp
  simp only [hop, resolve, invoke, builtin, Sem.run_bind, Sem.run_pure, Result.andThen_ok, List.map_toArray, List.map_cons, List.map_nil, hs, hx, hrun, Oper.upon_value]
  exact hK' _ _ (hK v' o' w' hl)
theorem LineV.keep {lo hi : Nat} {o o' : Own} {w w' : World} {r : Nat} {v : Value} (h : LineV o w r v) (k : Fr lo hi o o' w w') (hr : r + 1 < lo ∨ hi ≤ r + 1) : LineV o' w' r v := by
  rcases h with h | ⟨g, a, c, cs, hv, hb, h3, h4⟩
  · exact .inl h
  · exact .inr ⟨g, a, c, cs, hv, hb.keep k hr, h3, h4⟩
/-- The line while one waits. -/
structure Line1 (o : Own) (w : World) (r p : Nat) (v : Value) (g a c : Nat) (cs : Array Value) (k : Int) (n : Nat) : Prop where
  blk : Blk o w r p (.cells #[.int .i64 0, .int .i64 (n : Nat), v] 200 (0, 0))
  hv : v = .slice (some ⟨g, a, none⟩) 1 c
  row : Blk o w (r + 1) g (.cells cs 205 (0, 0))
  c1 : 1 ≤ c ∧ c ≤ maxLen
  fit : a + 2 * c ≤ cs.size
  x0 : cs[a]? = some (.int .i64 k)
  x1 : cs[a + 1]? = some (.int .i64 (n : Nat))
set_option maxRecDepth 100000 in
theorem lfirst {o : Own} {r p : Nat} {v : Value} {g a c : Nat} {cs : Array Value} {k : Int} {n : Nat} (w : World) (ho : Owned o w) (L : Line1 o w r p v g a c cs k n) (hn : n ≤ 1073741824) :
    Calls Tryz.prog 197 #[.pointer (some ⟨p, 0, none⟩)] w fun e w' => e = .returned (.int .i64 k) ∧ Fr r (r + 2) o o w w' ∧ LineRep o w' r p := by
  obtain ⟨hB, rfl, hR, hc, hf, x0, x1⟩ := L
  have c1 := hB.cell 1
  have c2 := hB.cell 2
  simp only [List.getElem?_toArray, List.getElem?_cons_zero, List.getElem?_cons_succ] at c1 c2
  have f1 := hB.free 1
  have f2 := hB.free 2
  have r0 := (hR.cell a).trans x0
  have r1 := (hR.cell (a + 1)).trans x1
  have hc1 : (1 : Int) ≤ (c : Int) := by omega
  have hpg : ¬ p = g := fun e => by have h1 := hB.1; have h2 := hR.1; rw [e] at h1; omega
  have HB := Lib.hid hB
  have HR := Lib.hid hR
  have HO := Lib.hid ho
  have HC := Lib.hid (And.intro hc hf)
  have hpl := hB.lt
  have hgl := hR.lt
  clear hB hR ho hc hf x0 x1
  have hx : ¬ w.heap.size = p := by omega
  have HR2 := Lib.hid (fun (A2 : Option Addr) (cc : Nat) (x : Obj) (hA : ∃ b f, A2 = some ⟨b, f, none⟩ ∧ b = g ∧ f + 2 * cc ≤ cs.size) (hc2 : cc ≤ maxLen) => show Fr r (r + 2) o o w (((w.setCell ⟨p, 2, none⟩ (.slice A2 0 cc)).setCell ⟨p, 1, none⟩ (.int .i64 0)).alloc x).drew ∧ LineRep o (((w.setCell ⟨p, 2, none⟩ (.slice A2 0 cc)).setCell ⟨p, 1, none⟩ (.int .i64 0)).alloc x).drew r p from by
    obtain ⟨b, f, rfl, rfl, h3⟩ := hA
    have hop := HB.out.1
    have F0 : Fr r (r + 2) o o w ((w.setCell ⟨p, 2, none⟩ (.slice (some ⟨b, f, none⟩) 0 cc)).setCell ⟨p, 1, none⟩ (.int .i64 0)) := ((Fr.refl HO.out).setCell _ _ (.inl ⟨by simp only [hop]; omega, by simp only [hop]; omega⟩)).setCell _ _ (.inl ⟨by simp only [hop]; omega, by simp only [hop]; omega⟩)
    have L0 : LineRep o ((w.setCell ⟨p, 2, none⟩ (.slice (some ⟨b, f, none⟩) 0 cc)).setCell ⟨p, 1, none⟩ (.int .i64 0)) r p := ⟨_, (HB.out.set 2 _).set 1 _, .inr ⟨b, f, cc, cs, rfl, HR.out.of_eq ((Below.heap_setCell _ _ _ _ (fun e => hpg e.symm)).trans (Below.heap_setCell _ _ _ _ (fun e => hpg e.symm))), h3, hc2⟩⟩
    exact ⟨(F0.alloc x).drew, L0.keep (lo := 0) (hi := 0) (((Fr.refl F0.fresh).alloc x).drew) (.inr (Nat.zero_le _))⟩)
  go_enter Tryz.func197, Tryz.ntmps197
  go_wp2_with fail
  all_goals
    go_region
    all_goals
      go_wp2_with fail
      go_ret
      exact ⟨rfl, HR2.out _ _ _ ⟨_, _, rfl, rfl, by have := HC.out; omega⟩ (by have := HC.out; omega)⟩
set_option maxRecDepth 100000 in
set_option maxHeartbeats 1000000 in
theorem ladd_any {o : Own} {r p : Nat} (k : Int) (n : Nat) (w : World) (ho : Owned o w) (L : LineRep o w r p) (hn : 1 ≤ n) (hn2 : n ≤ 1073741824) :
    Calls Tryz.prog 172 #[.pointer (some ⟨p, 0, none⟩), .int .i64 k, .int .i64 (n : Nat)] w fun e w' => ∃ v o', e = .returned v ∧ Fr r (r + 2) o o' w w' ∧ LineRep o' w' r p ∧ RowNew w o' w' v [k] := by
  obtain ⟨v, hB, hv⟩ := L
  have HV := Lib.hid (show LineV o w r v from hv)
  have h0 : (0 : Int) ≤ (n : Int) := by omega
  have h1 : (n : Int) ≤ 1073741824 := by omega
  have hmin : min (n : Int) 1073741824 = (n : Int) := by omega
  have hmax : max 0 (n : Int) = (n : Int) := by omega
  have c2 := hB.cell 2
  simp only [List.getElem?_toArray, List.getElem?_cons_zero, List.getElem?_cons_succ] at c2
  have hpl := hB.lt
  have HB := Lib.hid hB
  have HO := Lib.hid ho
  clear hB hv ho
  go_enter Tryz.func172, Tryz.ntmps172
  go_wp2_with (at_builtin; refine wpList_append_line _ rfl _ _ rfl (o := o) (r := r) ((Fr.refl (lo := 0) (hi := 0) HO.out).alloc _).fresh rfl (HV.out.keep (lo := 0) (hi := 0) ((Fr.refl HO.out).alloc _) (.inr (by omega))) rfl (.int .i64 k) (.int .i64 (n : Nat)) rfl rfl (cell_two_new _ _ _ _).1 (cell_two_new _ _ _ _).2 ?_; rintro v1 o1 w1 ⟨g, a, c, cs, rfl, F1, B1, hc1, hc2, hfit, x0, x1⟩; have P1 := (HB.out.keep (lo := 0) (hi := 0) ((Fr.refl HO.out).alloc _) (.inr (Nat.zero_le _))).keep F1 (by omega); have d0 := P1.cell 0; have d1 := P1.cell 1; have d2 := P1.cell 2; have e0 := P1.free 0; have e1 := P1.free 1; have e2 := P1.free 2; simp only [List.getElem?_toArray, List.getElem?_cons_zero, List.getElem?_cons_succ] at d0 d1 d2; have HF1 := Lib.hid F1; have HX := Lib.hid (And.intro B1 (And.intro (And.intro hc1 hc2) (And.intro hfit (And.intro x0 x1)))); have HP1 := Lib.hid P1; clear F1 B1 hc1 hc2 hfit x0 x1 P1 c2)
  have hop := HP1.out.1
  have HFW := Lib.hid (show Fr r (r + 2) o1 o1 w1 ((w1.setCell ⟨p, 2, none⟩ (.slice (some ⟨g, a, none⟩) 1 c)).setCell ⟨p, 1, none⟩ (.int .i64 (n : Nat))) from ((Fr.refl HF1.out.fresh).setCell _ _ (.inl ⟨by simp only [hop]; omega, by simp only [hop]; omega⟩)).setCell _ _ (.inl ⟨by simp only [hop]; omega, by simp only [hop]; omega⟩))
  have hpg : ¬ p = g := fun e => by have h2 := HX.out.1.1; rw [e] at hop; omega
  have HL1 := Lib.hid (show Line1 o1 ((w1.setCell ⟨p, 2, none⟩ (.slice (some ⟨g, a, none⟩) 1 c)).setCell ⟨p, 1, none⟩ (.int .i64 (n : Nat))) r p (.slice (some ⟨g, a, none⟩) 1 c) g a c cs k n from
    ⟨(HP1.out.set 2 _).set 1 _, rfl, HX.out.1.of_eq ((Below.heap_setCell _ _ _ _ (fun e => hpg e.symm)).trans (Below.heap_setCell _ _ _ _ (fun e => hpg e.symm))), HX.out.2.1, HX.out.2.2.1, HX.out.2.2.2.1, HX.out.2.2.2.2⟩)
  clear d0 d1 d2 e0 e1 e2 hop hpg
  generalize ((w1.setCell ⟨p, 2, none⟩ (.slice (some ⟨g, a, none⟩) 1 c)).setCell ⟨p, 1, none⟩ (.int .i64 (n : Nat))) = W2 at *
  have d0 := HL1.out.blk.cell 0
  have d1 := HL1.out.blk.cell 1
  simp only [List.getElem?_toArray, List.getElem?_cons_zero, List.getElem?_cons_succ] at d0 d1
  have hgt : (0 : Int) < (n : Int) := by omega
  have HFst := Lib.hid (fun (q : Nat) => lfirst (W2.drewN q) (HFW.out.fresh) (show Line1 o1 (W2.drewN q) r p (.slice (some ⟨g, a, none⟩) 1 c) g a c cs k n from ⟨HL1.out.blk, rfl, HL1.out.row, HL1.out.c1, HL1.out.fit, HL1.out.x0, HL1.out.x1⟩) hn2)
  refine wp_loop_rounds 2 ?_
  rw [rounds_succ]
  go_wp2_with fail
  go_quiet (fail)
  go_wp2_with fail
  go_at_call 197
  refine (HFst.out nq).mono ?_
  rintro e w3 ⟨rfl, F3, L3⟩
  have HF3 := Lib.hid ((((Fr.refl (lo := r) (hi := r + 2) HO.out).alloc (.cells #[.int .i64 k, .int .i64 (n : Nat)] 205)).trans (HF1.out.mono (by omega) (by omega))).trans (HFW.out.trans (((Fr.refl HFW.out.fresh).drewN nq).trans F3)))
  have HL3 := Lib.hid L3
  clear F3 L3 d0 d1
  go_wp2_with (at_builtin; refine wpList_append_new _ rfl _ _ _ rfl Tryz.underlying38 (w0 := w) (o0 := o) (own := o1) (lo := r) (hi := r + 2) (HF3.out.alloc _) rfl (RowNew.nil _ _ _) rfl (RdS.one _ .i64 _ k (by simp)) (by simp) ?_; intro v4 w4 F4 R4 G4; have HF4 := Lib.hid F4; have HR4 := Lib.hid R4; have L4 := (HL3.out.keep (lo := 0) (hi := 0) ((Fr.refl HF3.out.fresh).alloc _) (.inr (Nat.zero_le _))).keep (lo := 0) (hi := 0) (o' := o1) (w' := w4) ⟨G4.os, G4.tape, G4.output, G4.size, fun b hb _ => G4.block b hb (fun e => nomatch (show some b = none from e)), fun _ _ => rfl, F4.fresh⟩ (.inr (Nat.zero_le _)); have HL4 := Lib.hid L4; obtain ⟨v5, hB5, _⟩ := L4; have d0 := hB5.cell 0; have d1 := hB5.cell 1; simp only [List.getElem?_toArray, List.getElem?_cons_zero, List.getElem?_cons_succ] at d0 d1; clear F4 R4 G4 hB5)
  rw [rounds_succ]
  go_wp2_with fail
  go_quiet (fail)
  go_wp2_with fail
  go_ret
  exact ⟨_, o1, rfl, HF4.out.drewN _, HL4.out.keep (lo := 0) (hi := 0) ((Fr.refl HF4.out.fresh).drewN _) (.inr (Nat.zero_le _)), HR4.out.keep (lo := 0) (hi := 0) ((Fr.refl HF4.out.fresh).drewN _) (.inr rfl)⟩
end Go.Proofs.YtlpklloagaccoaaGreat
