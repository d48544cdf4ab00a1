/- The first of a row of free blocks goes (arena.first), a row turns. Conditions: nothing was freed. -/
import Derived.Test.YtlpklloagaccoaaSpec
import Derived.Outline
namespace Go.Proofs.Ytlpklloagaccoaa
open Go.RowKit
set_option linter.unusedVariables false

theorem arCells_set {c : Nat} (hc : c < 5) (n g q l b : Nat) (v : Nat → Value) (x : Value) : (arCells n g q l b v).setIfInBounds (4 + c) x = arCells n g q l b (updF v c x) := by
  rcases cls_cases hc with rfl | rfl | rfl | rfl | rfl <;> rfl
theorem arCells_row {c : Nat} (hc : c < 5) (n g q l b : Nat) (v : Nat → Value) : (arCells n g q l b v)[4 + c]? = some (v c) := by
  rcases cls_cases hc with rfl | rfl | rfl | rfl | rfl <;> rfl
theorem RowPost.own {o : Own} {w w' : World} {p off : Nat} {cs : Array Value} {T : TypeId} {v : Value} {ys : List Int} (s : Nat) (ho : Owned o w) (hv : ∀ g, v.ownBlock = some g → o g = s) (h : RowPost w p off cs T v ys w') :
    ∃ o' x, w'.heap[p]? = some (.cells (cs.setIfInBounds off x) T (0, 0)) ∧ Row w' x ys ∧ (∀ g, x.ownBlock = some g → o' g = s) ∧ (∀ k, k < w.heap.size → k ≠ p → o k ≠ s → w'.heap[k]? = w.heap[k]?) ∧ (∀ k, k < w.heap.size → o' k = o k) ∧ Owned o' w' ∧ RowFr w w' p v.ownBlock := by
  obtain ⟨g, cap, h1, h2, h3, h4, hf⟩ := h
  have hb : ∀ b, b < w.heap.size → b ≠ p → o b ≠ s → w'.heap[b]? = w.heap[b]? := fun b hb hne ho' => hf.block b hb hne (fun e => ho' (hv b e.symm))
  rcases h3 with h3 | h3
  · exact ⟨o, _, h1, h2.row, fun g' hg' => by
      simp only [Value.ownBlock, Option.some.injEq] at hg'
      subst hg'; exact hv _ h3, hb, fun _ _ => rfl, fun b hbb => ho b (Nat.le_trans hf.size hbb), hf⟩
  · have hg := h2.lt
    have hoth : ∀ b, b < w.heap.size → (o.give g s) b = o b := fun b hbb => by unfold Own.give; rw [if_neg (by omega)]
    exact ⟨o.give g s, _, h1, h2.row, fun g' hg' => by
      simp only [Value.ownBlock, Option.some.injEq] at hg'
      subst hg'; simp [Own.give], hb, hoth, fun b hbb => by
      unfold Own.give; rw [if_neg (by omega)]; exact ho b (Nat.le_trans hf.size hbb), hf⟩
/-- A row of the arena turns. -/
theorem Arena.turn {o o' : Own} {w w' : World} {r p : Nat} {S : ArS} {g q l b : Nat} {v : Nat → Value} {f : Int → Option Nat} (A : Arena o w r p S g q l b v f) {c : Nat} (hc : c < 5) {x : Value} {ys : List Int} {ob : Option Nat}
    (hp : w'.heap[p]? = some (.cells ((arCells S.n g q l b v).setIfInBounds (4 + c) x) 96 (0, 0))) (R : Row w' x ys) (ho : ∀ h, x.ownBlock = some h → o' h = r + 4 + c)
    (oth : ∀ k, k < w.heap.size → k ≠ p → o k ≠ r + 4 + c → w'.heap[k]? = w.heap[k]?) (oo : ∀ k, k < w.heap.size → o' k = o k) (fr : Owned o' w') (hf : RowFr w w' p ob) (cu : Nat → Nat × Nat) :
    Fr r (r + 15) o o' w w' ∧ Arena o' w' r p { S with rows := updF S.rows c ys, cur := cu } g q l b (updF v c x) f := by
  have hop := A.blk.1
  have F : Fr r (r + 9) o o' w w' := ⟨hf.os, hf.tape, hf.output, hf.size, fun k hk hr => oth k hk (fun e => by subst e; omega) (by omega), oo, fr⟩
  have hpl := A.blk.lt
  have K : ∀ {s k : Nat} {y : Obj}, Blk o w s k y → s ≠ r → s ≠ r + 4 + c → Blk o' w' s k y := fun {s k y} h h1 h2 =>
    ⟨(oo k h.lt).trans h.1, (oth k h.lt (fun e => by subst e; exact h1 (h.1.symm.trans hop)) (by rw [h.1]; exact h2)).trans h.2⟩
  refine ⟨F.mono (Nat.le_refl _) (by omega), ⟨(oo p hpl).trans hop, by rw [← arCells_set hc]; exact hp⟩, (oo g A.ws.lt).trans A.gown, A.ws.of_eq (oth g A.ws.lt (fun e => by have := A.gown; rw [e] at this; omega) (by rw [A.gown]; omega)), A.mlt, ?_, A.bnone, fun k a hk => ?_, A.inj, fun d hd => ?_, fun d hd => ?_, A.pages.keep F (by omega), A.line.keep F (by omega), A.n1⟩
  · exact ⟨(oo b A.map.2.lt).trans A.map.1, A.map.2.of_eq (oth b A.map.2.lt (fun e => by have := A.map.1; rw [e] at this; omega) (by rw [A.map.1]; omega))⟩
  · obtain ⟨y, h1, h2⟩ := A.bsome k a hk
    exact ⟨y, h1, K h2 (by omega) (by omega)⟩
  · show Row w' (updF v c x d) (updF S.rows c ys d)
    unfold updF
    split
    · exact R
    · rename_i hne
      rcases (A.row d hd).form with ⟨h1, h2⟩ | ⟨g', cap, h1, R'⟩
      · rw [h1, h2]; exact Row.nil _
      · have hg := A.rown d hd g' (by rw [h1]; rfl)
        rw [h1]
        exact (R'.of_eq (oth g' R'.lt (fun e => by subst e; omega) (by omega))).row
  · show ∀ h, (updF v c x d).ownBlock = some h → _
    unfold updF
    split
    · rename_i e; subst e; exact ho
    · rename_i hne
      intro h hh
      have hg := A.rown d hd h hh
      rcases (A.row d hd).form with ⟨h1, h2⟩ | ⟨g', cap, h1, R'⟩
      · rw [h1] at hh; cases hh
      · rw [h1] at hh
        simp only [Value.ownBlock, Option.some.injEq] at hh
        subst hh
        exact (oo _ R'.lt).trans hg
theorem awhole_fresh (p a : Nat) (k : Int) (w : World) (c2 : w.cell? ⟨a, 2, none⟩ = some (.int .i64 0)) :
    Calls Try.prog 77 #[.pointer (some ⟨p, 0, none⟩), .int .i64 k, .pointer (some ⟨a, 0, none⟩)] w fun e w' => e = .returned (.bool true) ∧ w = w' := by
  go_enter Try.func77, Try.ntmps77
  go_wp2
  go_ret
  exact ⟨rfl, rfl⟩
/-- Behind first. -/
def FirstPost (o : Own) (w : World) (r p : Nat) (S : ArS) (c : Nat) (h : Int) (e : Ending) (w' : World) : Prop :=
  e = .returned (.tuple #[.int .i64 h, .bool true]) ∧ Fr r (r + 15) o o w w' ∧ ArenaRep o w' r p (firstS S c)
theorem Arena.popped {o : Own} {w w' : World} {r p : Nat} {S : ArS} {g q l b : Nat} {v : Nat → Value} {f : Int → Option Nat} (A : Arena o w r p S g q l b v f) (ho : Owned o w) {c : Nat} (hc : c < 5) {h cap : Nat} (hv : v c = .slice (some ⟨h, 0, none⟩) (S.rows c).length cap) {e : Ending}
    (hp : HeapPopPost w p (4 + c) (arCells S.n g q l b v) 96 h cap (S.rows c) e w') :
    Fr r (r + 15) o o w w' ∧ Arena o w' r p (firstS S c) g q l b (updF v c (.slice (some ⟨h, 0, none⟩) ((S.rows c).length - 1) cap)) f := by
  obtain ⟨_, h1, h2, h3⟩ := hp
  have hown := A.rown c hc h (by rw [hv]; rfl)
  have R := h2.row
  rw [popL_length] at R
  exact A.turn hc h1 R (fun k hk => by
    simp only [Value.ownBlock, Option.some.injEq] at hk
    subst hk; exact hown) (fun k hk h4 h5 => h3.block k hk h4 (fun e => by
    simp only [Option.some.injEq] at e
    subst e; exact h5 hown)) (fun _ _ => rfl) (fun k hk => ho k (Nat.le_trans h3.size hk)) h3 _
set_option maxRecDepth 100000 in
set_option maxHeartbeats 1000000 in
theorem first_some {o : Own} {r p : Nat} {S : ArS} (c : Nat) (x : Bl) (k : Int) (w : World) (ho : Owned o w) (A : ArenaRep o w r p S) (hc : c < 5) (hl : 0 < (S.rows c).length) (hl2 : (S.rows c).length ≤ 32) (hk : (S.rows c).getD 0 0 = k) (hx : S.bl k = some x) (hs : x.state = 0) :
    Calls Try.prog 65 #[.pointer (some ⟨p, 0, none⟩), .int .i64 (c : Nat)] w (FirstPost o w r p S c k) := by
  obtain ⟨g, q, l, b, v, f, A⟩ := A
  obtain ⟨h, cap, hv, R⟩ : ∃ h cap, v c = .slice (some ⟨h, 0, none⟩) (S.rows c).length cap ∧ RowB w h cap (S.rows c) := by
    rcases (A.row c hc).form with ⟨h1, h2⟩ | ⟨h, cap, h1, R⟩
    · rw [h2] at hl; cases hl
    · exact ⟨h, cap, h1, R⟩
  have hown := A.rown c hc h (by rw [hv]; rfl)
  have hpop := Lib.hid (Ar.heap_pop w A.blk.2 ((arCells_row hc S.n g q l b v).trans (congrArg some hv)) (fun e => by have := A.blk.1; rw [e] at this; omega) R hl (by omega))
  have hpopped := Lib.hid (fun (w' : World) (e : Ending) => A.popped (w' := w') (e := e) ho hc hv)
  have cr : w.cell? ⟨p, 4 + c, none⟩ = some (.slice (some ⟨h, 0, none⟩) (S.rows c).length cap) := by rw [← hv, ← arCells_row hc S.n g q l b v]; exact A.blk.cell (4 + c)
  have hlen := Ar.call_len cr
  have hcn : (c : Int) < 5 := by omega
  have hln : (0 : Int) < ((S.rows c).length : Int) := by omega
  have HA := Lib.hid A
  have HK := Lib.hid hk
  have HX := Lib.hid hx
  have HS := Lib.hid hs
  clear A hk hx hs R hv hl
  go_enter Try.func65, Try.ntmps65
  go_wp2_with fail
  have hta : ∀ (x : Int) (w : World), (Instr.typeAssert (.iface 3 (.int .i64 x)) 20 3 false).run Try.prog w = .ok (.int .i64 x) w := fun _ _ => by kernel_rfl
  refine wp_loop_rounds 1 ?_
  rw [rounds_succ]
  go_wp2_with (go_at_call 75; refine (Ar.row_len .nilIface _ _ _ _).mono ?_; rintro e w2 ⟨rfl, rfl⟩)
  go_at_call 76
  refine hpop.out.mono ?_
  intro e w1 hp1
  have hp2 := hp1
  obtain ⟨rfl, _⟩ := hp1
  rw [HK.out]
  obtain ⟨hF, hA⟩ := hpopped.out _ _ hp2
  have hl := hA.look k false
  obtain ⟨a, hfa, hB⟩ := hA.f_of (k := k) (x := x) HX.out
  rw [hfa] at hl
  simp only [Option.map_some, Option.getD_some, Bool.false_eq_true, if_false] at hl
  have c3 := hA.c3
  have d2 := hB.cell 2
  unfold blCells at d2
  rw [HS.out] at d2
  simp only [List.getElem?_toArray, List.getElem?_cons_zero, List.getElem?_cons_succ] at d2
  have HF := Lib.hid hF
  have HA2 := Lib.hid hA
  clear hF hA hB hfa hp2
  go_wp2_with (go_at_call 77; refine (awhole_fresh _ _ _ _ d2).mono ?_; rintro e w2 ⟨rfl, rfl⟩)
  go_ret2
  exact ⟨rfl, HF.out, _, _, _, _, _, _, HA2.out⟩
end Go.Proofs.Ytlpklloagaccoaa
