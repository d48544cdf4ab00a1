/- Pages of small blocks, and large blocks (arena.page, arena.great). Conditions: nothing was freed. -/
import Derived.Test.YtlpklloagaccoaaFirst
namespace Go.Proofs.Ytlpklloagaccoaa
open Go.RowKit
set_option linter.unusedVariables false

/-- A block is new. -/
theorem Arena.add {o : Own} {w w2 : World} {r p : Nat} {S : ArS} {g q l b : Nat} {v : Nat → Value} {f : Int → Option Nat} (A : Arena o w r p S g q l b v f) (ho : Owned o w) (k : Int) (x : Bl)
    (hm : MapIs w2 b (fun j => if j = k then some (.pointer (some ⟨w.heap.size, 0, none⟩)) else (f j).map fun a => .pointer (some ⟨a, 0, none⟩))) (ht : MapTurn (w.alloc (.cells (blCells x) 63)) w2 b) :
    Fr r (r + 15) o (o.give w.heap.size (r + 3)) w w2 ∧ Arena (o.give w.heap.size (r + 3)) w2 r p { S with bl := updI S.bl k (some x) } g q l b v (updI f k (some w.heap.size)) := by
  have F1 := (Fr.refl (lo := 0) (hi := 0) ho).give (.cells (blCells x) 63) (r + 3)
  have F1' := (Fr.refl (lo := r) (hi := r + 15) ho).give (.cells (blCells x) 63) (r + 3)
  have A1 := A.keep F1 (.inr (Nat.zero_le _))
  have F2 := ht.fr (lo := r + 2) (hi := r + 3) F1.fresh (by rw [A1.map.1]; omega)
  have B1 := Blk.new (o := o) (w := w) (.cells (blCells x) 63) (r + 3)
  have hlt : ∀ y a, f y = some a → a < w.heap.size := fun y a hy => (A.bsome y a hy).choose_spec.2.lt
  refine ⟨F1'.trans (F2.mono (by omega) (by omega)), A1.blk.keep F2 (by omega), (F2.own g A1.ws.lt).trans A1.gown, A1.ws.of_eq (F2.block g A1.ws.lt (by rw [A1.gown]; omega)), A1.mlt, ⟨(F2.own b A1.map.2.lt).trans A1.map.1, hm.congr fun j => ?_⟩, fun j hj => ?_, fun j a hj => ?_, fun j j' a hj hj' => ?_,
    fun c hc => ((A1.row c hc).keepA (A1.rown c hc) F2 (by omega)).1, fun c hc => ((A1.row c hc).keepA (A1.rown c hc) F2 (by omega)).2, A1.pages.keep F2 (by omega), A1.line.keep F2 (by omega), A1.n1⟩
  · unfold updI
    split
    · rfl
    · rfl
  · revert hj
    show updI f k _ j = none → updI S.bl k _ j = none
    unfold updI
    split
    · intro h; cases h
    · exact A.bnone j
  · revert hj
    show updI f k _ j = some a → ∃ y, updI S.bl k _ j = some y ∧ _
    unfold updI
    split
    · intro h; cases h
      exact ⟨x, rfl, B1.keep F2 (by omega)⟩
    · intro h
      obtain ⟨y, h1, h2⟩ := A1.bsome j a h
      exact ⟨y, h1, h2.keep F2 (by omega)⟩
  · revert hj hj'
    unfold updI
    split
    · rename_i e
      intro h; cases h
      split
      · rename_i e'; intro _; rw [e, e']
      · intro h; have := hlt _ _ h; omega
    · intro h
      split
      · intro h'; cases h'; have := hlt _ _ h; omega
      · intro h'; exact A.inj j j' a h h'
/-- Behind i blocks of a page. -/
def pageI (S : ArS) (c i : Nat) : ArS :=
  { S with t := S.t + 1, pg := fun i => decide (i < S.t + 1), R := takeR S.R S.t 1 (c + 1) 1, bl := pageBl S.bl (S.t * 64) (lenN c) i, rows := updF S.rows c (seqL (S.t * 64) (lenN c) i), cur := updF S.cur c (S.t, 0) }
theorem pageI_done (S : ArS) (c : Nat) : pageI S c (perN c) = pageS S c := rfl
theorem Arena.congr {o : Own} {w : World} {r p : Nat} {S S' : ArS} {g q l b : Nat} {v v' : Nat → Value} {f : Int → Option Nat} (A : Arena o w r p S g q l b v f) (hn : S'.n = S.n) (hm : S'.m = S.m) (hb : S'.bl = S.bl) (hr : ∀ c, c < 5 → S'.rows c = S.rows c) (hv : ∀ c, c < 5 → v' c = v c) (hp : PagesRep o w (r + 9) q S.n S'.pg S'.R) : Arena o w r p S' g q l b v' f := by
  have e : arCells S'.n g q l b v' = arCells S.n g q l b v := by unfold arCells; rw [hn, hv 0 (by omega), hv 1 (by omega), hv 2 (by omega), hv 3 (by omega), hv 4 (by omega)]
  exact ⟨by rw [e]; exact A.blk, A.gown, by rw [hn, hm]; exact A.ws, by rw [hm]; exact A.mlt, A.map, by rw [hb]; exact A.bnone, by rw [hb]; exact A.bsome, A.inj, fun c hc => by rw [hr c hc, hv c hc]; exact A.row c hc, fun c hc => by rw [hv c hc]; exact A.rown c hc, by rw [hn]; exact hp, A.line, by rw [hn]; exact A.n1⟩
/-- Pages are taken. -/
theorem Arena.paged {o : Own} {w w1 : World} {r p : Nat} {S : ArS} {g q l b : Nat} {v : Nat → Value} {f : Int → Option Nat} (A : Arena o w r p S g q l b v f) {pg : Nat → Bool} {R : Runs} (F : Fr (r + 9) (r + 9 + 4) o o w w1) (P : PagesRep o w1 (r + 9) q S.n pg R) (t : Nat) (cu : Nat → Nat × Nat) :
    Fr r (r + 15) o o w w1 ∧ Arena o w1 r p { S with t := t, pg := pg, R := R, cur := cu } g q l b v f :=
  ⟨F.mono (by omega) (by omega), A.blk.keep F (by omega), (F.own g A.ws.lt).trans A.gown, A.ws.of_eq (F.block g A.ws.lt (by rw [A.gown]; omega)), A.mlt, A.map.keep F (by omega), A.bnone, fun y a hy => let ⟨z, h1, h2⟩ := A.bsome y a hy; ⟨z, h1, h2.keep F (by omega)⟩, A.inj,
    fun c hc => ((A.row c hc).keepA (A.rown c hc) F (by omega)).1, fun c hc => ((A.row c hc).keepA (A.rown c hc) F (by omega)).2, P, A.line.keep F (by omega), A.n1⟩
/-- One goes into a row of the arena. -/
theorem Arena.pushed {o : Own} {w : World} {r p : Nat} {S : ArS} {g q l b : Nat} {v : Nat → Value} {f : Int → Option Nat} (A : Arena o w r p S g q l b v f) (ho : Owned o w) {c : Nat} (hc : c < 5) (x : Int) (hl : (S.rows c).length < 1099511627775) :
    Calls Try.prog 70 #[.iface 139 (.pointer (some ⟨p, 4 + c, none⟩)), .iface 3 (.int .i64 x)] w fun e w' => e = .returned (.tuple #[]) ∧ ∃ ys o' v', ys.Perm (S.rows c ++ [x]) ∧ (NoUp (S.rows c ++ [x]) (S.rows c).length → ys = S.rows c ++ [x]) ∧ Fr r (r + 15) o o' w w' ∧ ∀ cu, Arena o' w' r p { S with rows := updF S.rows c ys, cur := cu } g q l b v' f := by
  have hop := A.blk.1
  refine (Ar.heap_push x w A.blk.2 (arCells_row hc S.n g q l b v) (A.row c hc) (fun e => by have := A.rown c hc p e; omega) hl).mono ?_
  rintro e w' ⟨rfl, ys, h1, h2, h3⟩
  obtain ⟨o', v', hp, R, hv, oth, oo, fr, hf⟩ := h3.own (r + 4 + c) ho (A.rown c hc)
  exact ⟨rfl, ys, o', _, h1, h2, (A.turn hc hp R hv oth oo fr hf S.cur).1, fun cu => (A.turn hc hp R hv oth oo fr hf cu).2⟩
theorem blocks_any {c : Nat} (hc : c < 5) (s : Int) (e : s = lenN c) (w : World) : Calls Try.prog 78 #[.int .i64 s] w fun e w' => e = .returned (.int .i64 (perN c : Nat)) ∧ w = w' := by
  subst e
  rcases cls_cases hc with rfl | rfl | rfl | rfl | rfl
  all_goals
    go_enter Try.func78, Try.ntmps78
    go_wp2
    refine wp_loop_rounds 5 ?_
    rw [rounds_succ]
    go_wp2
    repeat (rw [rounds_succ]; go_wp2)
    go_ret
    exact ⟨rfl, rfl⟩
theorem take_one_int {o : Own} {r p n t : Nat} {R : Runs} (mki : Int) (mk : Nat) (e : mki = (mk : Nat)) (w : World) (ho : Owned o w) (P : PagesRep o w r p n (fun i => decide (i < t)) R) :
    Calls Try.prog 74 #[.pointer (some ⟨p, 0, none⟩), .int .i64 1, .int .i64 mki] w (TakePost o w r p n t 1 mk R) := by
  subst e; exact take_one mk w ho P
end Go.Proofs.Ytlpklloagaccoaa
