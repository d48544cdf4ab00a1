/- Pages (pages.Table): New, and Take while what is taken is a prefix. Conditions: at most 4096 pages. -/
import Derived.Test.YtlpklloagaccoaaRun
import Derived.Test.YtlpklloagaccoaaMaps
namespace Go.Proofs.Ytlpklloagaccoaa
open Go.RowKit
set_option linter.unusedVariables false

abbrev Runs := Int → Option (Nat × Nat × Nat)
def runV (x : Nat × Nat × Nat) : Value := .agg #[.int .i64 x.1, .int .i64 x.2.1, .int .i64 x.2.2]
structure Pages (o : Own) (w : World) (r p n : Nat) (S : Nat → Bool) (R : Runs) (q b : Nat) : Prop where
  blk : Blk o w r p (.cells #[.int .i64 (n : Nat), .pointer (some ⟨q, 0, none⟩), .map (some b)] 123 (0, 0))
  set : BsetRep o w (r + 1) q n S
  map : MapBlk o w (r + 3) b (fun k => (R k).map runV)
  rng : ∀ k x, R k = some x → x.1 + x.2.1 ≤ n
def PagesRep (o : Own) (w : World) (r p n : Nat) (S : Nat → Bool) (R : Runs) : Prop := ∃ q b, Pages o w r p n S R q b
theorem Pages.keep {lo hi : Nat} {o o' : Own} {w w' : World} {r p n : Nat} {S : Nat → Bool} {R : Runs} {q b : Nat} (h : Pages o w r p n S R q b) (k : Fr lo hi o o' w w') (hr : r + 4 ≤ lo ∨ hi ≤ r) : Pages o' w' r p n S R q b :=
  ⟨h.blk.keep k (by omega), h.set.keep k (by omega), h.map.keep k (by omega), h.rng⟩
theorem PagesRep.keep {lo hi : Nat} {o o' : Own} {w w' : World} {r p n : Nat} {S : Nat → Bool} {R : Runs} (h : PagesRep o w r p n S R) (k : Fr lo hi o o' w w') (hr : r + 4 ≤ lo ∨ hi ≤ r) : PagesRep o' w' r p n S R :=
  let ⟨q, b, s⟩ := h; ⟨q, b, s.keep k hr⟩
theorem BsetRep.le {o : Own} {w : World} {r p n : Nat} {S : Nat → Bool} (h : BsetRep o w r p n S) : n ≤ 4096 := let ⟨_, _, B⟩ := h; B.le
theorem BsetRep.congr {o : Own} {w : World} {r p n : Nat} {S S' : Nat → Bool} (h : BsetRep o w r p n S) (e : ∀ i, i < n → S' i = S i) : BsetRep o w r p n S' :=
  let ⟨g, m, B⟩ := h; ⟨g, m, ⟨B.blk, B.own, B.ws, B.lt, fun i hi => (B.is i hi).trans (e i hi).symm, B.le⟩⟩

theorem Fr.none {o o' : Own} {w w' : World} (h : Fr 0 0 o o' w w') (lo hi : Nat) : Fr lo hi o o' w w' :=
  ⟨h.os, h.tape, h.output, h.size, fun b hb _ => h.block b hb (.inr (Nat.zero_le _)), h.own, h.fresh⟩

/-! ### New -/
def PagesNew (o : Own) (w : World) (r n : Nat) (e : Ending) (w' : World) : Prop :=
  ∃ p o', e = .returned (.pointer (some ⟨p, 0, none⟩)) ∧ Fr r (r + 4) o o' w w' ∧ PagesRep o' w' r p n (fun i => decide (i < 1)) (fun _ => none)
theorem pages_made {o o1 : Own} {w w1 : World} {r n q : Nat} (hf : Fr (r + 1) (r + 1 + 2) o o1 w w1) (hb : BsetRep o1 w1 (r + 1) q n (fun _ => false)) :
    ∃ o2, Fr r (r + 4) o o2 w ((w1.alloc (.map #[] 0)).alloc (.cells #[.int .i64 (n : Nat), .pointer (some ⟨q, 0, none⟩), .map (some w1.heap.size)] 123)) ∧
      Pages o2 ((w1.alloc (.map #[] 0)).alloc (.cells #[.int .i64 (n : Nat), .pointer (some ⟨q, 0, none⟩), .map (some w1.heap.size)] 123)) r (w1.heap.size + 1) n (fun _ => false) (fun _ => none) q w1.heap.size := by
  have F2 := (Fr.refl (lo := 0) (hi := 0) hf.fresh).give (.map #[] 0) (r + 3)
  have M2 : MapBlk _ _ _ _ _ := MapBlk.new (o := o1) (w := w1) (r + 3)
  have F3 := (Fr.refl (lo := 0) (hi := 0) F2.fresh).give (.cells #[.int .i64 (n : Nat), .pointer (some ⟨q, 0, none⟩), .map (some w1.heap.size)] 123) r
  have B := Blk.new (o := o1.give w1.heap.size (r + 3)) (w := w1.alloc (.map #[] 0)) (.cells #[.int .i64 (n : Nat), .pointer (some ⟨q, 0, none⟩), .map (some w1.heap.size)] 123) r
  have N2 := M2.keep F3 (.inr (Nat.zero_le _))
  have S2 := (hb.keep F2 (.inr (Nat.zero_le _))).keep F3 (.inr (Nat.zero_le _))
  simp only [World.size_alloc] at *
  exact ⟨_, (hf.mono (by omega) (by omega)).trans ((F2.trans F3).none r (r + 4)), B, S2, N2.congr fun _ => rfl, fun _ _ h => by cases h⟩
theorem badd_zero0 {o : Own} {r p n : Nat} {S : Nat → Bool} (h : 1 ≤ n) (w : World) (ho : Owned o w) (B : BsetRep o w r p n S) :
    Calls Try.prog 62 #[.pointer (some ⟨p, 0, none⟩), .int .i64 0] w (FlipPost o w r p n (setS S 0 true) (S 0 == false)) := badd_any 0 w ho B (by omega)
theorem pages_done {o o2 : Own} {w w2 w3 : World} {r n q b p : Nat} (F2 : Fr r (r + 4) o o2 w w2) (P2 : Pages o2 w2 r p n (fun _ => false) (fun _ => none) q b) (F3 : Fr (r + 1) (r + 1 + 2) o2 o2 w2 w3) (B3 : BsetRep o2 w3 (r + 1) q n (setS (fun _ => false) 0 true)) :
    PagesNew o w r n (.returned (.pointer (some ⟨p, 0, none⟩))) w3 :=
  ⟨p, o2, rfl, F2.trans (F3.mono (by omega) (by omega)), q, b, P2.blk.keep F3 (by omega), B3.congr fun i _ => by
    unfold setS; by_cases h : i = 0 <;> simp [h], P2.map.keep F3 (by omega), P2.rng⟩
set_option maxRecDepth 100000 in
set_option maxHeartbeats 400000 in
theorem pages_new {o : Own} (r n : Nat) (w : World) (ho : Owned o w) (h0 : 1 ≤ n) (h1 : n ≤ 4096) :
    Calls Try.prog 43 #[.int .i64 (n : Nat)] w (PagesNew o w r n) := by
  have hmm := @run_makeMap Try.prog
  have n1 : (n : Int) ≤ 4096 := by omega
  have n2 : (1 : Int) ≤ (n : Int) := by omega
  have HP := Lib.hid (fun (o1 : Own) (w1 : World) (q : Nat) (hf : Fr (r + 1) (r + 1 + 2) o o1 w w1) (hb : BsetRep o1 w1 (r + 1) q n (fun _ => false)) => pages_made hf hb)
  have HN := Lib.hid (bset_new (o := o) (r + 1) n w ho h0 h1)
  go_enter Try.func43, Try.ntmps43
  go_wp2_with fail
  · go_at_call 61
    refine HN.out.mono ?_
    rintro e w1 ⟨q, o1, rfl, hf1, hb1⟩
    obtain ⟨o2, F2, P2⟩ := HP.out _ _ _ hf1 hb1
    have HF2 := Lib.hid F2
    have HP2 := Lib.hid P2
    have hadd := Lib.hid (badd_zero0 h0 _ F2.fresh P2.set)
    have c1 := P2.blk.cell 1
    simp only [List.getElem?_toArray, List.getElem?_cons_zero, List.getElem?_cons_succ] at c1
    clear P2 F2 hf1 hb1 HP HN
    go_wp2_with fail
    go_at_call 62
    refine hadd.out.mono ?_
    rintro e w3 ⟨rfl, hf3, hb3⟩
    have HF3 := Lib.hid hf3
    have HB3 := Lib.hid hb3
    clear hf3 hb3 hadd
    go_wp2
    go_ret
    exact pages_done HF2.out HP2.out HF3.out HB3.out
  · obtain rfl : n = 1 := by omega
    go_at_call 61
    refine HN.out.mono ?_
    rintro e w1 ⟨q, o1, rfl, hf1, hb1⟩
    obtain ⟨o2, F2, P2⟩ := HP.out _ _ _ hf1 hb1
    have HF2 := Lib.hid F2
    have HP2 := Lib.hid P2
    have hadd := Lib.hid (badd_zero0 h0 _ F2.fresh P2.set)
    have c1 := P2.blk.cell 1
    simp only [List.getElem?_toArray, List.getElem?_cons_zero, List.getElem?_cons_succ] at c1
    clear P2 F2 hf1 hb1 HP HN
    go_wp2_with fail
    go_at_call 62
    refine hadd.out.mono ?_
    rintro e w3 ⟨rfl, hf3, hb3⟩
    have HF3 := Lib.hid hf3
    have HB3 := Lib.hid hb3
    clear hf3 hb3 hadd
    go_wp2
    go_ret
    exact pages_done HF2.out HP2.out HF3.out HB3.out
end Go.Proofs.Ytlpklloagaccoaa
