/- The first of a row of free blocks goes (arena.first), a row turns. Conditions: nothing was freed. Pages of small blocks, and large blocks (arena.page, arena.great). Conditions: nothing was freed. A block is taken (arena.page, arena.great, arena.take). Conditions: nothing was freed. A page of small blocks (arena.page). Conditions: nothing was freed. -/
import Derived.Test.YtlpklloagaccoaaGreatSpec
import Derived.Outline
namespace Go.Proofs.YtlpklloagaccoaaGreat
open Go.RowKit
set_option linter.unusedVariables false

theorem arCells_set {c : Nat} (hc : c < 5) (n g q l b : Nat) (v : Nat → Value) (x : Value) : (arCells n g q l b v).setIfInBounds (4 + c) x = arCells n g q l b (updF v c x) := by
  rcases cls_cases hc with rfl | rfl | rfl | rfl | rfl <;> rfl
theorem arCells_row {c : Nat} (hc : c < 5) (n g q l b : Nat) (v : Nat → Value) : (arCells n g q l b v)[4 + c]? = some (v c) := by
  rcases cls_cases hc with rfl | rfl | rfl | rfl | rfl <;> rfl
theorem RowPost.own {o : Own} {w w' : World} {p off : Nat} {cs : Array Value} {T : TypeId} {v : Value} {ys : List Int} (s : Nat) (ho : Owned o w) (hv : ∀ g, v.ownBlock = some g → o g = s) (h : RowPost w p off cs T v ys w') :
    ∃ o' x, w'.heap[p]? = some (.cells (cs.setIfInBounds off x) T (0, 0)) ∧ Row w' x ys ∧ (∀ g, x.ownBlock = some g → o' g = s) ∧ (∀ k, k < w.heap.size → k ≠ p → o k ≠ s → w'.heap[k]? = w.heap[k]?) ∧ (∀ k, k < w.heap.size → o' k = o k) ∧ Owned o' w' ∧ RowFr w w' p v.ownBlock := by
  obtain ⟨g, cap, h1, h2, h3, h4, hf⟩ := h
  have hb : ∀ b, b < w.heap.size → b ≠ p → o b ≠ s → w'.heap[b]? = w.heap[b]? := fun b hb hne ho' => hf.block b hb hne (fun e => ho' (hv b e.symm))
  rcases h3 with h3 | h3
  · exact ⟨o, _, h1, h2.row, fun g' hg' => by
      simp only [Value.ownBlock, Option.some.injEq] at hg'
      subst hg'; exact hv _ h3, hb, fun _ _ => rfl, fun b hbb => ho b (Nat.le_trans hf.size hbb), hf⟩
  · have hg := h2.lt
    have hoth : ∀ b, b < w.heap.size → (o.give g s) b = o b := fun b hbb => by unfold Own.give; rw [if_neg (by omega)]
    exact ⟨o.give g s, _, h1, h2.row, fun g' hg' => by
      simp only [Value.ownBlock, Option.some.injEq] at hg'
      subst hg'; simp [Own.give], hb, hoth, fun b hbb => by
      unfold Own.give; rw [if_neg (by omega)]; exact ho b (Nat.le_trans hf.size hbb), hf⟩
/-- A row of the arena turns. -/
theorem Arena.turn {o o' : Own} {w w' : World} {r p : Nat} {S : ArS} {g q l b : Nat} {v : Nat → Value} {f : Int → Option Nat} (A : Arena o w r p S g q l b v f) {c : Nat} (hc : c < 5) {x : Value} {ys : List Int} {ob : Option Nat}
    (hp : w'.heap[p]? = some (.cells ((arCells S.n g q l b v).setIfInBounds (4 + c) x) 121 (0, 0))) (R : Row w' x ys) (ho : ∀ h, x.ownBlock = some h → o' h = r + 4 + c)
    (oth : ∀ k, k < w.heap.size → k ≠ p → o k ≠ r + 4 + c → w'.heap[k]? = w.heap[k]?) (oo : ∀ k, k < w.heap.size → o' k = o k) (fr : Owned o' w') (hf : RowFr w w' p ob) (cu : Nat → Nat × Nat) :
    Fr r (r + 15) o o' w w' ∧ Arena o' w' r p { S with rows := updF S.rows c ys, cur := cu } g q l b (updF v c x) f := by
  have hop := A.blk.1
  have F : Fr r (r + 9) o o' w w' := ⟨hf.os, hf.tape, hf.output, hf.size, fun k hk hr => oth k hk (fun e => by subst e; omega) (by omega), oo, fr⟩
  have hpl := A.blk.lt
  have K : ∀ {s k : Nat} {y : Obj}, Blk o w s k y → s ≠ r → s ≠ r + 4 + c → Blk o' w' s k y := fun {s k y} h h1 h2 =>
    ⟨(oo k h.lt).trans h.1, (oth k h.lt (fun e => by subst e; exact h1 (h.1.symm.trans hop)) (by rw [h.1]; exact h2)).trans h.2⟩
  refine ⟨F.mono (Nat.le_refl _) (by omega), ⟨(oo p hpl).trans hop, by rw [← arCells_set hc]; exact hp⟩, (oo g A.ws.lt).trans A.gown, A.ws.of_eq (oth g A.ws.lt (fun e => by have := A.gown; rw [e] at this; omega) (by rw [A.gown]; omega)), A.mlt, ?_, A.bnone, fun k a hk => ?_, A.inj, fun d hd => ?_, fun d hd => ?_, A.pages.keep F (by omega), A.line.keep F (by omega), A.n1⟩
  · exact ⟨(oo b A.map.2.lt).trans A.map.1, A.map.2.of_eq (oth b A.map.2.lt (fun e => by have := A.map.1; rw [e] at this; omega) (by rw [A.map.1]; omega))⟩
  · obtain ⟨y, h1, h2⟩ := A.bsome k a hk
    exact ⟨y, h1, K h2 (by omega) (by omega)⟩
  · show Row w' (updF v c x d) (updF S.rows c ys d)
    unfold updF
    split
    · exact R
    · rename_i hne
      rcases (A.row d hd).form with ⟨h1, h2⟩ | ⟨g', cap, h1, R'⟩
      · rw [h1, h2]; exact Row.nil _
      · have hg := A.rown d hd g' (by rw [h1]; rfl)
        rw [h1]
        exact (R'.of_eq (oth g' R'.lt (fun e => by subst e; omega) (by omega))).row
  · show ∀ h, (updF v c x d).ownBlock = some h → _
    unfold updF
    split
    · rename_i e; subst e; exact ho
    · rename_i hne
      intro h hh
      have hg := A.rown d hd h hh
      rcases (A.row d hd).form with ⟨h1, h2⟩ | ⟨g', cap, h1, R'⟩
      · rw [h1] at hh; cases hh
      · rw [h1] at hh
        simp only [Value.ownBlock, Option.some.injEq] at hh
        subst hh
        exact (oo _ R'.lt).trans hg
theorem awhole_fresh (p a : Nat) (k : Int) (w : World) (c2 : w.cell? ⟨a, 2, none⟩ = some (.int .i64 0)) :
    Calls Tryz.prog 211 #[.pointer (some ⟨p, 0, none⟩), .int .i64 k, .pointer (some ⟨a, 0, none⟩)] w fun e w' => e = .returned (.bool true) ∧ w = w' := by
  go_enter Tryz.func211, Tryz.ntmps211
  go_wp2
  go_ret
  exact ⟨rfl, rfl⟩
/-- Behind first. -/
def FirstPost (o : Own) (w : World) (r p : Nat) (S : ArS) (c : Nat) (h : Int) (e : Ending) (w' : World) : Prop :=
  e = .returned (.tuple #[.int .i64 h, .bool true]) ∧ Fr r (r + 15) o o w w' ∧ ArenaRep o w' r p (firstS S c)
theorem Arena.popped {o : Own} {w w' : World} {r p : Nat} {S : ArS} {g q l b : Nat} {v : Nat → Value} {f : Int → Option Nat} (A : Arena o w r p S g q l b v f) (ho : Owned o w) {c : Nat} (hc : c < 5) {h cap : Nat} (hv : v c = .slice (some ⟨h, 0, none⟩) (S.rows c).length cap) {e : Ending}
    (hp : HeapPopPost w p (4 + c) (arCells S.n g q l b v) 121 h cap (S.rows c) e w') :
    Fr r (r + 15) o o w w' ∧ Arena o w' r p (firstS S c) g q l b (updF v c (.slice (some ⟨h, 0, none⟩) ((S.rows c).length - 1) cap)) f := by
  obtain ⟨_, h1, h2, h3⟩ := hp
  have hown := A.rown c hc h (by rw [hv]; rfl)
  have R := h2.row
  rw [popL_length] at R
  exact A.turn hc h1 R (fun k hk => by
    simp only [Value.ownBlock, Option.some.injEq] at hk
    subst hk; exact hown) (fun k hk h4 h5 => h3.block k hk h4 (fun e => by
    simp only [Option.some.injEq] at e
    subst e; exact h5 hown)) (fun _ _ => rfl) (fun k hk => ho k (Nat.le_trans h3.size hk)) h3 _
set_option maxRecDepth 100000 in
set_option maxHeartbeats 1000000 in
theorem first_some {o : Own} {r p : Nat} {S : ArS} (c : Nat) (x : Bl) (k : Int) (w : World) (ho : Owned o w) (A : ArenaRep o w r p S) (hc : c < 5) (hl : 0 < (S.rows c).length) (hl2 : (S.rows c).length ≤ 32) (hk : (S.rows c).getD 0 0 = k) (hx : S.bl k = some x) (hs : x.state = 0) :
    Calls Tryz.prog 194 #[.pointer (some ⟨p, 0, none⟩), .int .i64 (c : Nat)] w (FirstPost o w r p S c k) := by
  obtain ⟨g, q, l, b, v, f, A⟩ := A
  obtain ⟨h, cap, hv, R⟩ : ∃ h cap, v c = .slice (some ⟨h, 0, none⟩) (S.rows c).length cap ∧ RowB w h cap (S.rows c) := by
    rcases (A.row c hc).form with ⟨h1, h2⟩ | ⟨h, cap, h1, R⟩
    · rw [h2] at hl; cases hl
    · exact ⟨h, cap, h1, R⟩
  have hown := A.rown c hc h (by rw [hv]; rfl)
  have hpop := Lib.hid (Ar.heap_pop w A.blk.2 ((arCells_row hc S.n g q l b v).trans (congrArg some hv)) (fun e => by have := A.blk.1; rw [e] at this; omega) R hl (by omega))
  have hpopped := Lib.hid (fun (w' : World) (e : Ending) => A.popped (w' := w') (e := e) ho hc hv)
  have cr : w.cell? ⟨p, 4 + c, none⟩ = some (.slice (some ⟨h, 0, none⟩) (S.rows c).length cap) := by rw [← hv, ← arCells_row hc S.n g q l b v]; exact A.blk.cell (4 + c)
  have hlen := Ar.call_len cr
  have hcn : (c : Int) < 5 := by omega
  have hln : (0 : Int) < ((S.rows c).length : Int) := by omega
  have HA := Lib.hid A
  have HK := Lib.hid hk
  have HX := Lib.hid hx
  have HS := Lib.hid hs
  clear A hk hx hs R hv hl
  go_enter Tryz.func194, Tryz.ntmps194
  go_wp2_with fail
  have hta : ∀ (x : Int) (w : World), (Instr.typeAssert (.iface 3 (.int .i64 x)) 20 3 false).run Tryz.prog w = .ok (.int .i64 x) w := fun _ _ => by kernel_rfl
  refine wp_loop_rounds 1 ?_
  rw [rounds_succ]
  go_wp2_with (go_at_call 210; refine (Ar.row_len .nilIface _ _ _ _).mono ?_; rintro e w2 ⟨rfl, rfl⟩)
  go_at_call 185
  refine hpop.out.mono ?_
  intro e w1 hp1
  have hp2 := hp1
  obtain ⟨rfl, _⟩ := hp1
  rw [HK.out]
  obtain ⟨hF, hA⟩ := hpopped.out _ _ hp2
  have hl := hA.look k false
  obtain ⟨a, hfa, hB⟩ := hA.f_of (k := k) (x := x) HX.out
  rw [hfa] at hl
  simp only [Option.map_some, Option.getD_some, Bool.false_eq_true, if_false] at hl
  have c3 := hA.c3
  have d2 := hB.cell 2
  unfold blCells at d2
  rw [HS.out] at d2
  simp only [List.getElem?_toArray, List.getElem?_cons_zero, List.getElem?_cons_succ] at d2
  have HF := Lib.hid hF
  have HA2 := Lib.hid hA
  clear hF hA hB hfa hp2
  go_wp2_with (go_at_call 211; refine (awhole_fresh _ _ _ _ d2).mono ?_; rintro e w2 ⟨rfl, rfl⟩)
  go_ret2
  exact ⟨rfl, HF.out, _, _, _, _, _, _, HA2.out⟩
end Go.Proofs.YtlpklloagaccoaaGreat
namespace Go.Proofs.YtlpklloagaccoaaGreat
open Go.RowKit
set_option linter.unusedVariables false

/-- A block is new. -/
theorem Arena.add {o : Own} {w w2 : World} {r p : Nat} {S : ArS} {g q l b : Nat} {v : Nat → Value} {f : Int → Option Nat} (A : Arena o w r p S g q l b v f) (ho : Owned o w) (k : Int) (x : Bl)
    (hm : MapIs w2 b (fun j => if j = k then some (.pointer (some ⟨w.heap.size, 0, none⟩)) else (f j).map fun a => .pointer (some ⟨a, 0, none⟩))) (ht : MapTurn (w.alloc (.cells (blCells x) 169)) w2 b) :
    Fr r (r + 15) o (o.give w.heap.size (r + 3)) w w2 ∧ Arena (o.give w.heap.size (r + 3)) w2 r p { S with bl := updI S.bl k (some x) } g q l b v (updI f k (some w.heap.size)) := by
  have F1 := (Fr.refl (lo := 0) (hi := 0) ho).give (.cells (blCells x) 169) (r + 3)
  have F1' := (Fr.refl (lo := r) (hi := r + 15) ho).give (.cells (blCells x) 169) (r + 3)
  have A1 := A.keep F1 (.inr (Nat.zero_le _))
  have F2 := ht.fr (lo := r + 2) (hi := r + 3) F1.fresh (by rw [A1.map.1]; omega)
  have B1 := Blk.new (o := o) (w := w) (.cells (blCells x) 169) (r + 3)
  have hlt : ∀ y a, f y = some a → a < w.heap.size := fun y a hy => (A.bsome y a hy).choose_spec.2.lt
  refine ⟨F1'.trans (F2.mono (by omega) (by omega)), A1.blk.keep F2 (by omega), (F2.own g A1.ws.lt).trans A1.gown, A1.ws.of_eq (F2.block g A1.ws.lt (by rw [A1.gown]; omega)), A1.mlt, ⟨(F2.own b A1.map.2.lt).trans A1.map.1, hm.congr fun j => ?_⟩, fun j hj => ?_, fun j a hj => ?_, fun j j' a hj hj' => ?_,
    fun c hc => ((A1.row c hc).keepA (A1.rown c hc) F2 (by omega)).1, fun c hc => ((A1.row c hc).keepA (A1.rown c hc) F2 (by omega)).2, A1.pages.keep F2 (by omega), A1.line.keep F2 (by omega), A1.n1⟩
  · unfold updI
    split
    · rfl
    · rfl
  · revert hj
    show updI f k _ j = none → updI S.bl k _ j = none
    unfold updI
    split
    · intro h; cases h
    · exact A.bnone j
  · revert hj
    show updI f k _ j = some a → ∃ y, updI S.bl k _ j = some y ∧ _
    unfold updI
    split
    · intro h; cases h
      exact ⟨x, rfl, B1.keep F2 (by omega)⟩
    · intro h
      obtain ⟨y, h1, h2⟩ := A1.bsome j a h
      exact ⟨y, h1, h2.keep F2 (by omega)⟩
  · revert hj hj'
    unfold updI
    split
    · rename_i e
      intro h; cases h
      split
      · rename_i e'; intro _; rw [e, e']
      · intro h; have := hlt _ _ h; omega
    · intro h
      split
      · intro h'; cases h'; have := hlt _ _ h; omega
      · intro h'; exact A.inj j j' a h h'
/-- Behind i blocks of a page. -/
def pageI (S : ArS) (c i : Nat) : ArS :=
  { S with t := S.t + 1, pg := fun i => decide (i < S.t + 1), R := takeR S.R S.t 1 (c + 1) 1, bl := pageBl S.bl (S.t * 64) (lenN c) i, rows := updF S.rows c (seqL (S.t * 64) (lenN c) i), cur := updF S.cur c (S.t, 0) }
theorem pageI_done (S : ArS) (c : Nat) : pageI S c (perN c) = pageS S c := rfl
theorem Arena.congr {o : Own} {w : World} {r p : Nat} {S S' : ArS} {g q l b : Nat} {v v' : Nat → Value} {f : Int → Option Nat} (A : Arena o w r p S g q l b v f) (hn : S'.n = S.n) (hm : S'.m = S.m) (hb : S'.bl = S.bl) (hr : ∀ c, c < 5 → S'.rows c = S.rows c) (hv : ∀ c, c < 5 → v' c = v c) (hp : PagesRep o w (r + 9) q S.n S'.pg S'.R) : Arena o w r p S' g q l b v' f := by
  have e : arCells S'.n g q l b v' = arCells S.n g q l b v := by unfold arCells; rw [hn, hv 0 (by omega), hv 1 (by omega), hv 2 (by omega), hv 3 (by omega), hv 4 (by omega)]
  exact ⟨by rw [e]; exact A.blk, A.gown, by rw [hn, hm]; exact A.ws, by rw [hm]; exact A.mlt, A.map, by rw [hb]; exact A.bnone, by rw [hb]; exact A.bsome, A.inj, fun c hc => by rw [hr c hc, hv c hc]; exact A.row c hc, fun c hc => by rw [hv c hc]; exact A.rown c hc, by rw [hn]; exact hp, A.line, by rw [hn]; exact A.n1⟩
/-- Pages are taken. -/
theorem Arena.paged {o : Own} {w w1 : World} {r p : Nat} {S : ArS} {g q l b : Nat} {v : Nat → Value} {f : Int → Option Nat} (A : Arena o w r p S g q l b v f) {pg : Nat → Bool} {R : Runs} (F : Fr (r + 9) (r + 9 + 4) o o w w1) (P : PagesRep o w1 (r + 9) q S.n pg R) (t : Nat) (cu : Nat → Nat × Nat) :
    Fr r (r + 15) o o w w1 ∧ Arena o w1 r p { S with t := t, pg := pg, R := R, cur := cu } g q l b v f :=
  ⟨F.mono (by omega) (by omega), A.blk.keep F (by omega), (F.own g A.ws.lt).trans A.gown, A.ws.of_eq (F.block g A.ws.lt (by rw [A.gown]; omega)), A.mlt, A.map.keep F (by omega), A.bnone, fun y a hy => let ⟨z, h1, h2⟩ := A.bsome y a hy; ⟨z, h1, h2.keep F (by omega)⟩, A.inj,
    fun c hc => ((A.row c hc).keepA (A.rown c hc) F (by omega)).1, fun c hc => ((A.row c hc).keepA (A.rown c hc) F (by omega)).2, P, A.line.keep F (by omega), A.n1⟩
/-- One goes into a row of the arena. -/
theorem Arena.pushed {o : Own} {w : World} {r p : Nat} {S : ArS} {g q l b : Nat} {v : Nat → Value} {f : Int → Option Nat} (A : Arena o w r p S g q l b v f) (ho : Owned o w) {c : Nat} (hc : c < 5) (x : Int) (hl : (S.rows c).length < 1099511627775) :
    Calls Tryz.prog 173 #[.iface 218 (.pointer (some ⟨p, 4 + c, none⟩)), .iface 3 (.int .i64 x)] w fun e w' => e = .returned (.tuple #[]) ∧ ∃ ys o' v', ys.Perm (S.rows c ++ [x]) ∧ (NoUp (S.rows c ++ [x]) (S.rows c).length → ys = S.rows c ++ [x]) ∧ Fr r (r + 15) o o' w w' ∧ ∀ cu, Arena o' w' r p { S with rows := updF S.rows c ys, cur := cu } g q l b v' f := by
  have hop := A.blk.1
  refine (Ar.heap_push x w A.blk.2 (arCells_row hc S.n g q l b v) (A.row c hc) (fun e => by have := A.rown c hc p e; omega) hl).mono ?_
  rintro e w' ⟨rfl, ys, h1, h2, h3⟩
  obtain ⟨o', v', hp, R, hv, oth, oo, fr, hf⟩ := h3.own (r + 4 + c) ho (A.rown c hc)
  exact ⟨rfl, ys, o', _, h1, h2, (A.turn hc hp R hv oth oo fr hf S.cur).1, fun cu => (A.turn hc hp R hv oth oo fr hf cu).2⟩
theorem blocks_any {c : Nat} (hc : c < 5) (s : Int) (e : s = lenN c) (w : World) : Calls Tryz.prog 212 #[.int .i64 s] w fun e w' => e = .returned (.int .i64 (perN c : Nat)) ∧ w = w' := by
  subst e
  rcases cls_cases hc with rfl | rfl | rfl | rfl | rfl
  all_goals
    go_enter Tryz.func212, Tryz.ntmps212
    go_wp2
    refine wp_loop_rounds 5 ?_
    rw [rounds_succ]
    go_wp2
    repeat (rw [rounds_succ]; go_wp2)
    go_ret
    exact ⟨rfl, rfl⟩
theorem take_one_int {o : Own} {r p n t : Nat} {R : Runs} (mki : Int) (mk : Nat) (e : mki = (mk : Nat)) (w : World) (ho : Owned o w) (P : PagesRep o w r p n (fun i => decide (i < t)) R) :
    Calls Tryz.prog 209 #[.pointer (some ⟨p, 0, none⟩), .int .i64 1, .int .i64 mki] w (TakePost o w r p n t 1 mk R) := by
  subst e; exact take_one mk w ho P
end Go.Proofs.YtlpklloagaccoaaGreat
namespace Go.Proofs.YtlpklloagaccoaaGreat
open Go.RowKit
set_option linter.unusedVariables false

theorem OnlyBlk.fr {o : Own} {w w' : World} {g lo hi : Nat} (h : OnlyBlk w w' g) (ho : Owned o w) (hg : lo ≤ o g ∧ o g < hi) : Fr lo hi o o w w' :=
  ⟨h.os, h.tape, h.output, Nat.le_of_eq h.size.symm, fun b hb hr => h.block b (fun e => by subst e; omega), fun _ _ => rfl, fun b hb => ho b (by rw [← h.size]; exact hb)⟩
/-- A block's own words turn. -/
theorem Arena.reblk {o : Own} {w w' : World} {r p : Nat} {S : ArS} {g q l b : Nat} {v : Nat → Value} {f : Int → Option Nat} (A : Arena o w r p S g q l b v f) (ho : Owned o w) {k : Int} {a : Nat} (hf : f k = some a) (x : Bl) (h : OnlyBlk w w' a) (hx : w'.heap[a]? = some (.cells (blCells x) 169 (0, 0))) :
    Fr r (r + 15) o o w w' ∧ Arena o w' r p { S with bl := updI S.bl k (some x) } g q l b v f := by
  obtain ⟨y, hy, B⟩ := A.bsome k a hf
  have hoa := B.1
  have F : Fr (r + 3) (r + 4) o o w w' := h.fr ho (by omega)
  refine ⟨F.mono (by omega) (by omega), A.blk.keep F (by omega), A.gown, A.ws.of_eq (F.block g A.ws.lt (by rw [A.gown]; omega)), A.mlt, A.map.keep F (by omega), fun j hj => ?_, fun j c hj => ?_, A.inj,
    fun c hc => ((A.row c hc).keepA (A.rown c hc) F (by omega)).1, A.rown, A.pages.keep F (by omega), A.line.keep F (by omega), A.n1⟩
  · show updI S.bl k _ j = none
    unfold updI
    rw [if_neg (fun e => by rw [e, hf] at hj; cases hj)]
    exact A.bnone j hj
  · show ∃ y, updI S.bl k _ j = some y ∧ _
    unfold updI
    by_cases hjk : j = k
    · subst hjk
      rw [hf] at hj; cases hj
      rw [if_pos rfl]
      exact ⟨x, rfl, hoa, hx⟩
    · rw [if_neg hjk]
      obtain ⟨z, h1, h2⟩ := A.bsome j c hj
      exact ⟨z, h1, h2.of_eq (h.block c fun e => hjk (A.inj j k c hj (by rw [hf, e])))⟩
/-- The words turn. -/
theorem Arena.rewords {o : Own} {w w' : World} {r p : Nat} {S : ArS} {g q l b : Nat} {v : Nat → Value} {f : Int → Option Nat} (A : Arena o w r p S g q l b v f) (ho : Owned o w) {m : Nat → Nat} (h : OnlyBlk w w' g) (hw : WordsB w' g (S.n * 64) m) (hm : ∀ i, m i < 2 ^ 64) :
    Fr r (r + 15) o o w w' ∧ Arena o w' r p { S with m := m } g q l b v f := by
  have F : Fr (r + 1) (r + 2) o o w w' := h.fr ho (by have := A.gown; omega)
  exact ⟨F.mono (by omega) (by omega), A.blk.keep F (by omega), A.gown, hw, hm, A.map.keep F (by omega), A.bnone, fun y a hy => let ⟨z, h1, h2⟩ := A.bsome y a hy; ⟨z, h1, h2.keep F (by omega)⟩, A.inj,
    fun c hc => ((A.row c hc).keepA (A.rown c hc) F (by omega)).1, A.rown, A.pages.keep F (by omega), A.line.keep F (by omega), A.n1⟩
end Go.Proofs.YtlpklloagaccoaaGreat
namespace Go.Proofs.YtlpklloagaccoaaGreat
open Go.RowKit
set_option linter.unusedVariables false

/-- Behind page. -/
def PagePost (o : Own) (w : World) (r p : Nat) (S : ArS) (e : Ending) (w' : World) : Prop :=
  e = .returned (.bool true) ∧ ∃ o', Fr r (r + 15) o o' w w' ∧ ArenaRep o' w' r p S
/-- Between two rounds. -/
def PageRel (o : Own) (w : World) (r p : Nat) (S : ArS) (c i : Nat) (wr : World) : Prop :=
  ∃ o', Fr r (r + 15) o o' w wr ∧ ArenaRep o' wr r p (pageI S c i)
set_option maxRecDepth 100000 in
set_option maxHeartbeats 1000000 in
theorem page_yes {o : Own} {r p : Nat} {S : ArS} (c : Nat) (s : Int) (w : World) (ho : Owned o w) (A : ArenaRep o w r p S) (F : Fresh S) (hc : c < 5) (hj : (S.cur c).2 = perN c) (hs : s = (lenN c : Nat)) (hn : S.t + 1 ≤ S.n) :
    Calls Tryz.prog 195 #[.pointer (some ⟨p, 0, none⟩), .int .i64 (c : Nat), .int .i64 s] w (PagePost o w r p (pageS S c)) := by
  have hl := per_len hc
  have hrow : S.rows c = [] := by rw [F.rows c hc, hj]; exact rowAt_none c _
  obtain ⟨g, q, l, b, v, f, A⟩ := A
  have htake := Lib.hid (take_one_int (r := r + 9) ((c : Int) + 1) (c + 1) (by omega) w ho (by have := A.pages; rw [F.pg] at this; exact this))
  have hstart := Lib.hid (fun (w1 : World) (e : Ending) (hT : TakePost o w (r + 9) q S.n S.t 1 (c + 1) S.R e w1) => show e = .returned (.int .i64 (S.t : Nat)) ∧ PageRel o w r p S c 0 w1 by
    obtain ⟨rfl, h1, h2, _⟩ := hT
    obtain ⟨h3, h4⟩ := A.paged h1 (h2 hn) (S.t + 1) (updF S.cur c (S.t, 0))
    refine ⟨by unfold runN; rw [if_pos hn], o, h3, g, q, l, b, v, f, h4.congr rfl rfl (by show pageBl S.bl (S.t * 64) (lenN c) 0 = S.bl; exact pageBl_zero _ _ _) (fun d hd => ?_) (fun _ _ => rfl) h4.pages⟩
    show updF S.rows c _ d = S.rows d
    unfold updF
    split
    · rename_i e; subst e; rw [hrow]; rfl
    · rfl)
  have c1 := A.c1
  have hn4 := A.n1
  have t1 := F.t1
  subst hs
  have HR := Lib.hid hrow
  have HJ := Lib.hid hj
  have HF := Lib.hid F
  clear A F hrow hj
  go_enter Tryz.func195, Tryz.ntmps195
  go_wp2_with fail
  go_at_call 209
  refine htake.out.mono ?_
  intro e w1 hT
  obtain ⟨rfl, hR0⟩ := hstart.out _ _ hT
  have HR0 := Lib.hid hR0
  clear hT hR0
  go_wp2_with (go_at_call 212; refine (blocks_any hc _ rfl _).mono ?_; rintro e w2 ⟨rfl, rfl⟩)
  go_loopw [21] (fun iv wr => ∃ i : Nat, i ≤ perN c ∧ iv = .int .i64 i ∧ PageRel o w r p S c i wr) (fun iv _ => perN c - (intOf iv).toNat)
  case atStart => exact ⟨0, by omega, rfl, HR0.out⟩
  case round =>
    obtain ⟨i, hi, rfl, hrel⟩ := hrel
    obtain ⟨o1, F1, g1, q1, l1, b1, v1, f1, A1⟩ := hrel
    by_cases hip : i < perN c
    · have hip' : (i : Int) < (perN c : Nat) := by omega
      have hms := mul_step (s := lenN c) hip
      have e1 : ((i : Int) * (lenN c : Nat)) = ((i * lenN c : Nat) : Int) := by simp
      have k0 : 0 ≤ (S.t : Int) * 64 + (i : Int) * (lenN c : Nat) := by rw [e1]; omega
      have k1 : (S.t : Int) * 64 + (i : Int) * (lenN c : Nat) < KB := by rw [e1]; simp only [KB]; omega
      have HE := Lib.hid (show (S.t : Int) * 64 + (i : Int) * (lenN c : Nat) = ((S.t * 64 + i * lenN c : Nat) : Int) by rw [e1]; omega)
      have c3 := A1.c3
      have HA1 := Lib.hid A1
      have HF1 := Lib.hid F1
      have hmap := Lib.hid (fun x => A1.map.2.of_eq (Below.heap_alloc wr x _ A1.map.2.lt))
      clear A1 e1 F1
      go_wp2_with (at_mapUpdate; refine wpList_mapUpdate_is _ rfl _ _ _ 117 rfl 3 167 Tryz.underlying117 Tryz.underlying3 b1 _ (by exact hmap.out _) rfl ((S.t : Int) * 64 + (i : Int) * (lenN c : Nat)) rfl k0 k1 _ rfl ?_; intro w4 hm4 ht4)
      rw [HE.out] at hm4
      obtain ⟨F2, A2⟩ := HA1.out.add HF1.out.fresh _ ⟨lenN c, 0, 0⟩ hm4 ht4
      have hrows : (pageI S c i).rows c = seqL (S.t * 64) (lenN c) i := by show updF S.rows c _ c = _; unfold updF; rw [if_pos rfl]
      have hpush := A2.pushed F2.fresh hc ((S.t * 64 + i * lenN c : Nat) : Int) (by show ((pageI S c i).rows c).length < _; rw [hrows, seqL_length]; omega)
      rw [← HE.out] at hpush
      have HP := Lib.hid hpush
      have HR1 := Lib.hid hrows
      have HF2 := Lib.hid F2
      have d0 := A2.fp 0
      clear A2 F2 hrows hm4 ht4 hpush
      go_wp2_with fail
      go_at_call 173
      refine HP.out.mono ?_
      rintro e w5 ⟨rfl, ys, o5, v5, _, hys, F5, A5⟩
      have hys2 : ys = seqL (S.t * 64) (lenN c) (i + 1) := by
        have h1 : ({ pageI S c i with bl := updI (pageI S c i).bl ((S.t * 64 + i * lenN c : Nat) : Int) (some ⟨lenN c, 0, 0⟩) } : ArS).rows c = seqL (S.t * 64) (lenN c) i := HR1.out
        rw [h1, HE.out, seqL_length] at hys
        rw [seqL_succ]
        exact hys (seqL_noUp _ _ _ (by omega))
      have HREL : PageRel o w r p S c (i + 1) w5 := by
        refine ⟨o5, (HF1.out.trans HF2.out).trans F5, _, _, _, _, _, _, (A5 (updF S.cur c (S.t, 0))).congr rfl rfl ?_ (fun d hd => ?_) (fun _ _ => rfl) (A5 (updF S.cur c (S.t, 0))).pages⟩
        · show pageBl S.bl (S.t * 64) (lenN c) (i + 1) = _
          rw [pageBl_succ]; rfl
        · show updF S.rows c (seqL (S.t * 64) (lenN c) (i + 1)) d = updF (updF S.rows c (seqL (S.t * 64) (lenN c) i)) c ys d
          rw [updF_twice, hys2]
      have HRELH := Lib.hid HREL
      clear A5 F5 hys hys2 HREL
      go_wp2_with fail
      exact ⟨⟨i + 1, by omega, by go_num, HRELH.out⟩, by simp [intOf]; omega⟩
    · have hip' : ¬ (i : Int) < (perN c : Nat) := by omega
      go_wp2_with fail
      go_ret
      obtain rfl : i = perN c := by omega
      exact ⟨rfl, o1, F1, _, _, _, _, _, _, A1⟩
end Go.Proofs.YtlpklloagaccoaaGreat
