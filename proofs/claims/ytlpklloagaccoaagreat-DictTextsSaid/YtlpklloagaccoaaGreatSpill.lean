/- The table of what counts have above a header's (spill): its contracts. Conditions: counts from 0 to 255, handles that are places of words. -/
import Derived.Test.YtlpklloagaccoaaGreatMaps
import Derived.Maps.Own
import Derived.Maps.OwnIn
import Derived.Maps.OwnOps
namespace Go.Proofs.YtlpklloagaccoaaGreat
open Go.RowKit
set_option linter.unusedVariables false

theorem zero_bool (w : World) : (zeroValue 4).run Tryz.prog w = .ok (.bool false) w := by kernel_rfl
theorem zero_int (w : World) : (zeroValue 3).run Tryz.prog w = .ok (.int .i64 0) w := by kernel_rfl

/-- A table: its block, its two maps. -/
structure Spill (o : Own) (w : World) (r p : Nat) (lim : Int) (ex : Int → Int) (st : Int → Bool) (b1 b2 : Nat) (f1 f2 : Int → Option Value) : Prop where
  blk : Blk o w r p (.cells #[.int .i64 lim, .map (some b1), .map (some b2)] 154 (0, 0))
  m1 : MapBlk o w (r + 1) b1 f1
  m2 : MapBlk o w (r + 2) b2 f2
  e1 : ∀ k, (f1 k).getD (.int .i64 0) = .int .i64 (ex k)
  e2 : ∀ k, (f2 k).getD (.bool false) = .bool (st k)
  lim1 : 1 ≤ lim ∧ lim ≤ 1073741824
  ex1 : ∀ k, 0 ≤ ex k ∧ ex k ≤ lim ∧ (st k = false → ex k < lim)
def SpillRep (o : Own) (w : World) (r p : Nat) (lim : Int) (ex : Int → Int) (st : Int → Bool) : Prop := ∃ b1 b2 f1 f2, Spill o w r p lim ex st b1 b2 f1 f2
theorem Spill.keep {lo hi : Nat} {o o' : Own} {w w' : World} {r p : Nat} {lim : Int} {ex : Int → Int} {st : Int → Bool} {b1 b2 : Nat} {f1 f2 : Int → Option Value} (h : Spill o w r p lim ex st b1 b2 f1 f2) (k : Fr lo hi o o' w w') (hr : r + 3 ≤ lo ∨ hi ≤ r) :
    Spill o' w' r p lim ex st b1 b2 f1 f2 :=
  ⟨h.blk.keep k (by omega), h.m1.keep k (by omega), h.m2.keep k (by omega), h.e1, h.e2, h.lim1, h.ex1⟩
theorem Spill.drewN {o : Own} {w : World} {r p : Nat} {lim : Int} {ex : Int → Int} {st : Int → Bool} {b1 b2 : Nat} {f1 f2 : Int → Option Value} (h : Spill o w r p lim ex st b1 b2 f1 f2) (n : Nat) : Spill o (w.drewN n) r p lim ex st b1 b2 f1 f2 :=
  ⟨h.blk, h.m1, h.m2, h.e1, h.e2, h.lim1, h.ex1⟩
theorem SpillRep.drewN {o : Own} {w : World} {r p : Nat} {lim : Int} {ex : Int → Int} {st : Int → Bool} (h : SpillRep o w r p lim ex st) (n : Nat) : SpillRep o (w.drewN n) r p lim ex st :=
  let ⟨b1, b2, f1, f2, s⟩ := h; ⟨b1, b2, f1, f2, s.drewN n⟩
theorem SpillRep.keep {lo hi : Nat} {o o' : Own} {w w' : World} {r p : Nat} {lim : Int} {ex : Int → Int} {st : Int → Bool} (h : SpillRep o w r p lim ex st) (k : Fr lo hi o o' w w') (hr : r + 3 ≤ lo ∨ hi ≤ r) : SpillRep o' w' r p lim ex st :=
  let ⟨b1, b2, f1, f2, s⟩ := h; ⟨b1, b2, f1, f2, s.keep k hr⟩

theorem cut_any (n : Int) (h0 : 0 ≤ n) (h1 : n ≤ 255) (w : World) : Calls Tryz.prog 152 #[.int .i64 n] w fun e w' => e = .returned (.int .i64 n) ∧ w = w' := by
  go_enter Tryz.func152, Tryz.ntmps152
  go_wp2
  all_goals (go_ret; exact ⟨ret_int (by omega), rfl⟩)

theorem Spill.look1 {o : Own} {w : World} {r p : Nat} {lim : Int} {ex : Int → Int} {st : Int → Bool} {b1 b2 : Nat} {f1 f2 : Int → Option Value} (h : Spill o w r p lim ex st b1 b2 f1 f2) (k : Int) :
    ∀ n, (Instr.lookup 148 (.map (some b1)) (.int .i64 k) false).run Tryz.prog (w.drewN n) = .ok (.int .i64 (ex k)) (w.drewN n) := fun n => by
  have := MapIs.lookup (w := w.drewN n) h.m1.2 Tryz.underlying148 Tryz.underlying3 zero_int false k
  rw [this]; simp [h.e1]
theorem Spill.look2 {o : Own} {w : World} {r p : Nat} {lim : Int} {ex : Int → Int} {st : Int → Bool} {b1 b2 : Nat} {f1 f2 : Int → Option Value} (h : Spill o w r p lim ex st b1 b2 f1 f2) (k : Int) :
    ∀ n, (Instr.lookup 100 (.map (some b2)) (.int .i64 k) false).run Tryz.prog (w.drewN n) = .ok (.bool (st k)) (w.drewN n) := fun n => by
  have := MapIs.lookup (w := w.drewN n) h.m2.2 Tryz.underlying100 Tryz.underlying3 zero_bool false k
  rw [this]; simp [h.e2]

set_option maxHeartbeats 400000 in
theorem total_any {o : Own} {r p : Nat} {lim : Int} {ex : Int → Int} {st : Int → Bool} (h c : Int) (w : World) (S : SpillRep o w r p lim ex st) (h0 : 0 ≤ c) (h1 : c ≤ 255) :
    Calls Tryz.prog 96 #[.pointer (some ⟨p, 0, none⟩), .int .i64 h, .int .i64 c] w fun e w' => e = .returned (.int .i64 (c + ex h)) ∧ ∃ n, w' = w.drewN n := by
  obtain ⟨b1, b2, f1, f2, S⟩ := S
  have hl := S.look1 h
  have c1 := S.blk.cell 1
  simp only [List.getElem?_toArray, List.getElem?_cons_zero, List.getElem?_cons_succ] at c1
  have hex := S.ex1 h
  have hlim := S.lim1
  obtain ⟨x0, x1, _⟩ := hex
  obtain ⟨_, l1⟩ := hlim
  go_enter Tryz.func96, Tryz.ntmps96
  go_wp2
  go_quiet ((go_at_call 152; exact Calls.quiet_of_same ((cut_any c h0 h1 _).mono fun _ _ h => ⟨h.1, h.2.symm⟩)))
  go_wp2
  go_ret
  exact ⟨rfl, nq, rfl⟩

theorem sticky_any {o : Own} {r p : Nat} {lim : Int} {ex : Int → Int} {st : Int → Bool} (h : Int) (w : World) (S : SpillRep o w r p lim ex st) :
    Calls Tryz.prog 97 #[.pointer (some ⟨p, 0, none⟩), .int .i64 h] w fun e w' => e = .returned (.bool (st h)) ∧ w = w' := by
  obtain ⟨b1, b2, f1, f2, S⟩ := S
  have hl : (Instr.lookup 100 (.map (some b2)) (.int .i64 h) false).run Tryz.prog w = _ := S.look2 h 0
  have c2 := S.blk.cell 2
  simp only [List.getElem?_toArray, List.getElem?_cons_zero, List.getElem?_cons_succ] at c2
  go_enter Tryz.func97, Tryz.ntmps97
  go_wp2
  go_ret
  exact ⟨rfl, rfl⟩

/-- Behind a call on the table. -/
def SpillPost (o : Own) (w : World) (r p : Nat) (lim : Int) (v : Value) (ex : Int → Int) (st : Int → Bool) (e : Ending) (w' : World) : Prop :=
  e = .returned v ∧ Fr r (r + 3) o o w w' ∧ SpillRep o w' r p lim ex st

set_option maxRecDepth 100000 in
set_option maxHeartbeats 400000 in
theorem up_sticky {o : Own} {r p : Nat} {lim : Int} {ex : Int → Int} {st : Int → Bool} (h c : Int) (w : World) (ho : Owned o w) (S : SpillRep o w r p lim ex st) (h0 : 0 ≤ c) (h1 : c ≤ 255) (hs : st h = true) :
    Calls Tryz.prog 175 #[.pointer (some ⟨p, 0, none⟩), .int .i64 h, .int .i64 c] w (SpillPost o w r p lim (.int .i64 c) ex st) := by
  have S0 := S
  obtain ⟨b1, b2, f1, f2, S⟩ := S
  have hl : (Instr.lookup 100 (.map (some b2)) (.int .i64 h) false).run Tryz.prog w = .ok (.bool true) w := by
    have := S.look2 h 0; rw [hs] at this; exact this
  have c2 := S.blk.cell 2
  simp only [List.getElem?_toArray, List.getElem?_cons_zero, List.getElem?_cons_succ] at c2
  go_enter Tryz.func175, Tryz.ntmps175
  go_wp2_with (go_at_call 152; refine (cut_any c h0 h1 _).mono ?_; rintro e w1 ⟨rfl, rfl⟩)
  go_ret
  exact ⟨rfl, Fr.refl ho, S0⟩

/-- The extras with one changed. -/
def upd (f : Int → Int) (k v : Int) : Int → Int := fun j => if j = k then v else f j
def updB (f : Int → Bool) (k : Int) (v : Bool) : Int → Bool := fun j => if j = k then v else f j
theorem Spill.set1 {o : Own} {w w1 : World} {r p : Nat} {lim : Int} {ex : Int → Int} {st : Int → Bool} {b1 b2 : Nat} {f1 f2 : Int → Option Value} (S : Spill o w r p lim ex st b1 b2 f1 f2) (h v : Int) (n1 : ¬ p = b1) (n3 : ¬ b1 = b2)
    (hm : MapIs w1 b1 (fun j => if j = h then some (.int .i64 v) else f1 j)) (ht : MapTurn w w1 b1) (hv : 0 ≤ v ∧ v ≤ lim ∧ (st h = false → v < lim)) : Spill o w1 r p lim (upd ex h v) st b1 b2 (fun j => if j = h then some (.int .i64 v) else f1 j) f2 :=
  ⟨S.blk.of_eq (ht.block _ n1), ⟨S.m1.1, hm⟩, ⟨S.m2.1, S.m2.2.of_eq (ht.block _ (fun e => n3 e.symm))⟩, fun k => by unfold upd; split <;> simp [S.e1], S.e2, S.lim1, fun k => by
    unfold upd
    by_cases hk : k = h
    · subst hk; simpa using hv
    · simpa [hk] using S.ex1 k⟩
theorem Spill.set2 {o : Own} {w w1 : World} {r p : Nat} {lim : Int} {ex : Int → Int} {st : Int → Bool} {b1 b2 : Nat} {f1 f2 : Int → Option Value} (S : Spill o w r p lim ex st b1 b2 f1 f2) (h : Int) (n2 : ¬ p = b2) (n3 : ¬ b1 = b2)
    (hm : MapIs w1 b2 (fun j => if j = h then some (.bool true) else f2 j)) (ht : MapTurn w w1 b2) : Spill o w1 r p lim ex (updB st h true) b1 b2 f1 (fun j => if j = h then some (.bool true) else f2 j) :=
  ⟨S.blk.of_eq (ht.block _ n2), ⟨S.m1.1, S.m1.2.of_eq (ht.block _ n3)⟩, ⟨S.m2.1, hm⟩, S.e1, fun k => by unfold updB; split <;> simp [S.e2], S.lim1, fun k => by
    unfold updB
    by_cases hk : k = h
    · subst hk; have := S.ex1 k; simp; omega
    · simpa [hk] using S.ex1 k⟩

set_option maxRecDepth 100000 in
set_option maxHeartbeats 400000 in
theorem up_low {o : Own} {r p : Nat} {lim : Int} {ex : Int → Int} {st : Int → Bool} (h c : Int) (w : World) (ho : Owned o w) (S : SpillRep o w r p lim ex st) (h0 : 0 ≤ c) (h1 : c ≤ 255) (k0 : 0 ≤ h) (k1 : h < KB) (hs : st h = false) (hl : c + ex h + 1 < lim) (hc : c < 255) :
    Calls Tryz.prog 175 #[.pointer (some ⟨p, 0, none⟩), .int .i64 h, .int .i64 c] w (SpillPost o w r p lim (.int .i64 (c + 1)) ex st) := by
  have S0 := S
  obtain ⟨b1, b2, f1, f2, S⟩ := S
  have hl1 : (Instr.lookup 148 (.map (some b1)) (.int .i64 h) false).run Tryz.prog w = .ok (.int .i64 (ex h)) w := S.look1 h 0
  have cc0 := S.blk.cell 0
  have cc1 := S.blk.cell 1
  have cc2 := S.blk.cell 2
  simp only [List.getElem?_toArray, List.getElem?_cons_zero, List.getElem?_cons_succ] at cc0 cc1 cc2
  have x0 := (S.ex1 h).1
  have x1 := (S.ex1 h).2.1
  have l0 := S.lim1.1
  have l1 := S.lim1.2
  have n1 : ¬ p = b1 := fun e => by have := S.blk.2; subst e; obtain ⟨es, cl, hb, _⟩ := S.m1.2; rw [hb] at this; cases this
  have n2 : ¬ p = b2 := fun e => by have := S.blk.2; subst e; obtain ⟨es, cl, hb, _⟩ := S.m2.2; rw [hb] at this; cases this
  have n3 : ¬ b1 = b2 := fun e => by have e1 := S.m1.1; have e2 := S.m2.1; subst e; omega
  have hl2 : (Instr.lookup 100 (.map (some b2)) (.int .i64 h) false).run Tryz.prog w = .ok (.bool false) w := by
    have := S.look2 h 0; rw [hs] at this; exact this
  go_enter Tryz.func175, Tryz.ntmps175
  go_wp2_with (go_at_call 152; refine (cut_any c h0 h1 _).mono ?_; rintro e w1 ⟨rfl, rfl⟩)
  go_quiet ((go_at_call 96; exact Calls.quiet_of (total_any h c _ (S0.drewN _) h0 h1)))
  go_wp2
  go_ret
  exact ⟨rfl, (Fr.refl ho).drewN _, S0.drewN _⟩

set_option maxRecDepth 100000 in
set_option maxHeartbeats 400000 in
theorem up_high {o : Own} {r p : Nat} {lim : Int} {ex : Int → Int} {st : Int → Bool} (h c : Int) (w : World) (ho : Owned o w) (S : SpillRep o w r p lim ex st) (h0 : 0 ≤ c) (h1 : c ≤ 255) (k0 : 0 ≤ h) (k1 : h < KB) (hs : st h = false) (hl : lim ≤ c + ex h + 1) (hc : c < 255) :
    Calls Tryz.prog 175 #[.pointer (some ⟨p, 0, none⟩), .int .i64 h, .int .i64 c] w (SpillPost o w r p lim (.int .i64 (c + 1)) ex (updB st h true)) := by
  have S0 := S
  obtain ⟨b1, b2, f1, f2, S⟩ := S
  have hl1 : (Instr.lookup 148 (.map (some b1)) (.int .i64 h) false).run Tryz.prog w = .ok (.int .i64 (ex h)) w := S.look1 h 0
  have cc0 := S.blk.cell 0
  have cc1 := S.blk.cell 1
  have cc2 := S.blk.cell 2
  simp only [List.getElem?_toArray, List.getElem?_cons_zero, List.getElem?_cons_succ] at cc0 cc1 cc2
  have x0 := (S.ex1 h).1
  have x1 := (S.ex1 h).2.1
  have l0 := S.lim1.1
  have l1 := S.lim1.2
  have n1 : ¬ p = b1 := fun e => by have := S.blk.2; subst e; obtain ⟨es, cl, hb, _⟩ := S.m1.2; rw [hb] at this; cases this
  have n2 : ¬ p = b2 := fun e => by have := S.blk.2; subst e; obtain ⟨es, cl, hb, _⟩ := S.m2.2; rw [hb] at this; cases this
  have n3 : ¬ b1 = b2 := fun e => by have e1 := S.m1.1; have e2 := S.m2.1; subst e; omega
  have hl2 : (Instr.lookup 100 (.map (some b2)) (.int .i64 h) false).run Tryz.prog w = .ok (.bool false) w := by
    have := S.look2 h 0; rw [hs] at this; exact this
  go_enter Tryz.func175, Tryz.ntmps175
  go_wp2_with (go_at_call 152; refine (cut_any c h0 h1 _).mono ?_; rintro e w1 ⟨rfl, rfl⟩)
  go_quiet ((go_at_call 96; exact Calls.quiet_of (total_any h c _ (S0.drewN _) h0 h1)))
  go_wp2_with (at_mapUpdate; refine wpList_mapUpdate_is _ rfl _ _ _ 100 rfl 3 4 Tryz.underlying100 Tryz.underlying3 b2 f2 (by exact S.m2.2) rfl h rfl k0 k1 _ rfl ?_; intro w2 hm2 ht2)
  go_ret
  exact ⟨rfl, (Fr.refl ho).drewN_trans _ (ht2.fr (ho.drewN _) (by rw [S.m2.1]; omega)), _, _, _, _, (S.drewN _).set2 h n2 n3 hm2 ht2⟩

set_option maxRecDepth 100000 in
set_option maxHeartbeats 400000 in
theorem up_full {o : Own} {r p : Nat} {lim : Int} {ex : Int → Int} {st : Int → Bool} (h c : Int) (w : World) (ho : Owned o w) (S : SpillRep o w r p lim ex st) (h0 : 0 ≤ c) (h1 : c ≤ 255) (k0 : 0 ≤ h) (k1 : h < KB) (hs : st h = false) (hl : c + ex h + 1 < lim) (hc : c = 255) :
    Calls Tryz.prog 175 #[.pointer (some ⟨p, 0, none⟩), .int .i64 h, .int .i64 c] w (SpillPost o w r p lim (.int .i64 c) (upd ex h (ex h + 1)) st) := by
  subst hc
  have S0 := S
  obtain ⟨b1, b2, f1, f2, S⟩ := S
  have hl1 : (Instr.lookup 148 (.map (some b1)) (.int .i64 h) false).run Tryz.prog w = .ok (.int .i64 (ex h)) w := S.look1 h 0
  have cc0 := S.blk.cell 0
  have cc1 := S.blk.cell 1
  have cc2 := S.blk.cell 2
  simp only [List.getElem?_toArray, List.getElem?_cons_zero, List.getElem?_cons_succ] at cc0 cc1 cc2
  have x0 := (S.ex1 h).1
  have x1 := (S.ex1 h).2.1
  have l0 := S.lim1.1
  have l1 := S.lim1.2
  have n1 : ¬ p = b1 := fun e => by have := S.blk.2; subst e; obtain ⟨es, cl, hb, _⟩ := S.m1.2; rw [hb] at this; cases this
  have n2 : ¬ p = b2 := fun e => by have := S.blk.2; subst e; obtain ⟨es, cl, hb, _⟩ := S.m2.2; rw [hb] at this; cases this
  have n3 : ¬ b1 = b2 := fun e => by have e1 := S.m1.1; have e2 := S.m2.1; subst e; omega
  have hl2 : (Instr.lookup 100 (.map (some b2)) (.int .i64 h) false).run Tryz.prog w = .ok (.bool false) w := by
    have := S.look2 h 0; rw [hs] at this; exact this
  have hl3 := S.look1 h
  go_enter Tryz.func175, Tryz.ntmps175
  go_wp2_with (go_at_call 152; refine (cut_any 255 h0 h1 _).mono ?_; rintro e w1 ⟨rfl, rfl⟩)
  go_quiet ((go_at_call 96; exact Calls.quiet_of (total_any h 255 _ (S0.drewN _) h0 h1)))
  go_wp2_with (at_mapUpdate; refine wpList_mapUpdate_is _ rfl _ _ _ 148 rfl 3 3 Tryz.underlying148 Tryz.underlying3 b1 f1 (by exact S.m1.2) rfl h rfl k0 k1 _ rfl ?_; intro w2 hm2 ht2)
  go_ret
  exact ⟨rfl, (Fr.refl ho).drewN_trans _ (ht2.fr (ho.drewN _) (by rw [S.m1.1]; omega)), _, _, _, _, (S.drewN _).set1 h _ n1 n3 hm2 ht2 (by omega)⟩

set_option maxRecDepth 100000 in
set_option maxHeartbeats 400000 in
theorem up_both {o : Own} {r p : Nat} {lim : Int} {ex : Int → Int} {st : Int → Bool} (h c : Int) (w : World) (ho : Owned o w) (S : SpillRep o w r p lim ex st) (h0 : 0 ≤ c) (h1 : c ≤ 255) (k0 : 0 ≤ h) (k1 : h < KB) (hs : st h = false) (hl : lim ≤ c + ex h + 1) (hc : c = 255) :
    Calls Tryz.prog 175 #[.pointer (some ⟨p, 0, none⟩), .int .i64 h, .int .i64 c] w (SpillPost o w r p lim (.int .i64 c) (upd ex h (ex h + 1)) (updB st h true)) := by
  subst hc
  have S0 := S
  obtain ⟨b1, b2, f1, f2, S⟩ := S
  have hl1 : (Instr.lookup 148 (.map (some b1)) (.int .i64 h) false).run Tryz.prog w = .ok (.int .i64 (ex h)) w := S.look1 h 0
  have cc0 := S.blk.cell 0
  have cc1 := S.blk.cell 1
  have cc2 := S.blk.cell 2
  simp only [List.getElem?_toArray, List.getElem?_cons_zero, List.getElem?_cons_succ] at cc0 cc1 cc2
  have x0 := (S.ex1 h).1
  have x1 := (S.ex1 h).2.1
  have l0 := S.lim1.1
  have l1 := S.lim1.2
  have n1 : ¬ p = b1 := fun e => by have := S.blk.2; subst e; obtain ⟨es, cl, hb, _⟩ := S.m1.2; rw [hb] at this; cases this
  have n2 : ¬ p = b2 := fun e => by have := S.blk.2; subst e; obtain ⟨es, cl, hb, _⟩ := S.m2.2; rw [hb] at this; cases this
  have n3 : ¬ b1 = b2 := fun e => by have e1 := S.m1.1; have e2 := S.m2.1; subst e; omega
  have hex := (S.ex1 h).2.2 hs
  have hl2 : (Instr.lookup 100 (.map (some b2)) (.int .i64 h) false).run Tryz.prog w = .ok (.bool false) w := by
    have := S.look2 h 0; rw [hs] at this; exact this
  go_enter Tryz.func175, Tryz.ntmps175
  go_wp2_with (go_at_call 152; refine (cut_any 255 h0 h1 _).mono ?_; rintro e w1 ⟨rfl, rfl⟩)
  go_quiet ((go_at_call 96; exact Calls.quiet_of (total_any h 255 _ (S0.drewN _) h0 h1)))
  go_wp2_with (first
    | (at_mapUpdate; refine wpList_mapUpdate_is _ rfl _ _ _ 100 rfl 3 4 Tryz.underlying100 Tryz.underlying3 b2 f2 (by exact S.m2.2) rfl h rfl k0 k1 _ rfl ?_; intro w2 hm2 ht2; have S2 := (S.drewN nq).set2 h n2 n3 hm2 ht2; have hl4 : (Instr.lookup 148 (.map (some b1)) (.int .i64 h) false).run Tryz.prog w2 = .ok (.int .i64 (ex h)) w2 := (S2.look1 h 0); have cc3 := S2.blk.cell 1; (simp only [List.getElem?_toArray, List.getElem?_cons_zero, List.getElem?_cons_succ] at cc3))
    | (at_mapUpdate; refine wpList_mapUpdate_is _ rfl _ _ _ 148 rfl 3 3 Tryz.underlying148 Tryz.underlying3 b1 f1 (by exact S2.m1.2) rfl h rfl k0 k1 _ rfl ?_; intro w3 hm3 ht3))
  go_ret
  exact ⟨rfl, ((Fr.refl ho).drewN_trans _ (ht2.fr (ho.drewN _) (by rw [S.m2.1]; omega))).trans (ht3.fr (ho.below (Nat.le_of_eq (ht2.size.symm.trans rfl))) (by rw [S.m1.1]; omega)), _, _, _, _, S2.set1 h _ n1 n3 hm3 ht3 (by simp [updB]; omega)⟩

/-- Behind Up, Down: the header's new count, and the extras, come to this whole count. -/
def CountPost (o : Own) (w : World) (r p : Nat) (lim : Int) (ex : Int → Int) (st st' : Int → Bool) (h tot : Int) (e : Ending) (w' : World) : Prop :=
  ∃ (c' : Int) (ex' : Int → Int), e = .returned (.int .i64 c') ∧ Fr r (r + 3) o o w w' ∧ SpillRep o w' r p lim ex' st' ∧ 0 ≤ c' ∧ c' ≤ 255 ∧ c' + ex' h = tot ∧ ∀ k, k ≠ h → ex' k = ex k

theorem up_any {o : Own} {r p : Nat} {lim : Int} {ex : Int → Int} {st : Int → Bool} (h c : Int) (w : World) (ho : Owned o w) (S : SpillRep o w r p lim ex st) (h0 : 0 ≤ c) (h1 : c ≤ 255) (k0 : 0 ≤ h) (k1 : h < KB) :
    Calls Tryz.prog 175 #[.pointer (some ⟨p, 0, none⟩), .int .i64 h, .int .i64 c] w (CountPost o w r p lim ex st (updB st h (st h || decide (lim ≤ c + ex h + 1))) h (if st h then c + ex h else c + ex h + 1)) := by
  by_cases hs : st h = true
  · have e1 : updB st h (st h || decide (lim ≤ c + ex h + 1)) = st := by funext k; unfold updB; split <;> simp_all
    rw [e1, if_pos hs]
    exact (up_sticky h c w ho S h0 h1 hs).mono fun e w' ⟨he, hf, hr⟩ => ⟨c, ex, he, hf, hr, h0, h1, rfl, fun _ _ => rfl⟩
  · have hs : st h = false := by simpa using hs
    rw [if_neg (by simp [hs])]
    by_cases hl : lim ≤ c + ex h + 1
    · have e1 : updB st h (st h || decide (lim ≤ c + ex h + 1)) = updB st h true := by funext k; unfold updB; split <;> simp [hl]
      rw [e1]
      by_cases hc : c < 255
      · exact (up_high h c w ho S h0 h1 k0 k1 hs hl hc).mono fun e w' ⟨he, hf, hr⟩ => ⟨c + 1, ex, he, hf, hr, by omega, by omega, by omega, fun _ _ => rfl⟩
      · exact (up_both h c w ho S h0 h1 k0 k1 hs hl (by omega)).mono fun e w' ⟨he, hf, hr⟩ => ⟨c, _, he, hf, hr, h0, h1, by simp [upd]; omega, fun k hk => by simp [upd, hk]⟩
    · have e1 : updB st h (st h || decide (lim ≤ c + ex h + 1)) = st := by funext k; unfold updB; split <;> simp_all
      rw [e1]
      by_cases hc : c < 255
      · exact (up_low h c w ho S h0 h1 k0 k1 hs (by omega) hc).mono fun e w' ⟨he, hf, hr⟩ => ⟨c + 1, ex, he, hf, hr, by omega, by omega, by omega, fun _ _ => rfl⟩
      · exact (up_full h c w ho S h0 h1 k0 k1 hs (by omega) (by omega)).mono fun e w' ⟨he, hf, hr⟩ => ⟨c, _, he, hf, hr, h0, h1, by simp [upd]; omega, fun k hk => by simp [upd, hk]⟩

set_option maxRecDepth 100000 in
set_option maxHeartbeats 400000 in
theorem down_any {o : Own} {r p : Nat} {lim : Int} {ex : Int → Int} {st : Int → Bool} (h c : Int) (w : World) (ho : Owned o w) (S : SpillRep o w r p lim ex st) (h0 : 0 ≤ c) (h1 : c ≤ 255) (k0 : 0 ≤ h) (k1 : h < KB) :
    Calls Tryz.prog 176 #[.pointer (some ⟨p, 0, none⟩), .int .i64 h, .int .i64 c] w (CountPost o w r p lim ex st st h (if st h then c + ex h else if c + ex h = 0 then 0 else c + ex h - 1)) := by
  have S0 := S
  obtain ⟨b1, b2, f1, f2, S⟩ := S
  have hl1 : (Instr.lookup 148 (.map (some b1)) (.int .i64 h) false).run Tryz.prog w = .ok (.int .i64 (ex h)) w := S.look1 h 0
  have cc0 := S.blk.cell 0
  have cc1 := S.blk.cell 1
  have cc2 := S.blk.cell 2
  simp only [List.getElem?_toArray, List.getElem?_cons_zero, List.getElem?_cons_succ] at cc0 cc1 cc2
  have x0 := (S.ex1 h).1
  have x1 := (S.ex1 h).2.1
  have l0 := S.lim1.1
  have l1 := S.lim1.2
  have n1 : ¬ p = b1 := fun e => by have := S.blk.2; subst e; obtain ⟨es, cl, hb, _⟩ := S.m1.2; rw [hb] at this; cases this
  have n2 : ¬ p = b2 := fun e => by have := S.blk.2; subst e; obtain ⟨es, cl, hb, _⟩ := S.m2.2; rw [hb] at this; cases this
  have n3 : ¬ b1 = b2 := fun e => by have e1 := S.m1.1; have e2 := S.m2.1; subst e; omega
  by_cases hs : st h = true
  · rw [if_pos hs]
    have hl2 : (Instr.lookup 100 (.map (some b2)) (.int .i64 h) false).run Tryz.prog w = .ok (.bool true) w := by
      have := S.look2 h 0; rw [hs] at this; exact this
    go_enter Tryz.func176, Tryz.ntmps176
    go_wp2_with (go_at_call 152; refine (cut_any c h0 h1 _).mono ?_; rintro e w1 ⟨rfl, rfl⟩)
    go_ret
    exact ⟨c, ex, rfl, Fr.refl ho, S0, h0, h1, rfl, fun _ _ => rfl⟩
  · have hs : st h = false := by simpa using hs
    have hl2 : (Instr.lookup 100 (.map (some b2)) (.int .i64 h) false).run Tryz.prog w = .ok (.bool false) w := by
      have := S.look2 h 0; rw [hs] at this; exact this
    by_cases hx : 0 < ex h
    · rw [if_neg (by simp [hs]), if_neg (by omega)]
      go_enter Tryz.func176, Tryz.ntmps176
      go_wp2_with (first
        | (go_at_call 152; refine (cut_any c h0 h1 _).mono ?_; rintro e w1 ⟨rfl, rfl⟩)
        | (at_mapUpdate; refine wpList_mapUpdate_is _ rfl _ _ _ 148 rfl 3 3 Tryz.underlying148 Tryz.underlying3 b1 f1 (by exact S.m1.2) rfl h rfl k0 k1 _ rfl ?_; intro w2 hm2 ht2))
      go_ret
      exact ⟨c, upd ex h (ex h - 1), rfl, ht2.fr ho (by rw [S.m1.1]; omega), ⟨_, _, _, _, S.set1 h _ n1 n3 hm2 ht2 (by omega)⟩, h0, h1, by simp [upd]; omega, fun k hk => by simp [upd, hk]⟩
    · have hx0 : ex h = 0 := by omega
      rw [if_neg (by simp [hs])]
      have HX := Lib.hid hx0
      clear hx0
      go_enter Tryz.func176, Tryz.ntmps176
      go_wp2_with (go_at_call 152; refine (cut_any c h0 h1 _).mono ?_; rintro e w1 ⟨rfl, rfl⟩)
      all_goals
        go_ret
        have hx0 := HX.out
        exact ⟨_, ex, rfl, Fr.refl ho, S0, by omega, by omega, (by first | omega | (split <;> omega)), fun _ _ => rfl⟩

set_option maxRecDepth 100000 in
set_option maxHeartbeats 400000 in
theorem forget_any {o : Own} {r p : Nat} {lim : Int} {ex : Int → Int} {st : Int → Bool} (h : Int) (w : World) (ho : Owned o w) (S : SpillRep o w r p lim ex st) :
    Calls Tryz.prog 130 #[.pointer (some ⟨p, 0, none⟩), .int .i64 h] w (SpillPost o w r p lim (.tuple #[]) (upd ex h 0) (updB st h false)) := by
  have S0 := S
  obtain ⟨b1, b2, f1, f2, S⟩ := S
  have hl1 : (Instr.lookup 148 (.map (some b1)) (.int .i64 h) false).run Tryz.prog w = .ok (.int .i64 (ex h)) w := S.look1 h 0
  have cc0 := S.blk.cell 0
  have cc1 := S.blk.cell 1
  have cc2 := S.blk.cell 2
  simp only [List.getElem?_toArray, List.getElem?_cons_zero, List.getElem?_cons_succ] at cc0 cc1 cc2
  have x0 := (S.ex1 h).1
  have x1 := (S.ex1 h).2.1
  have l0 := S.lim1.1
  have l1 := S.lim1.2
  have n1 : ¬ p = b1 := fun e => by have := S.blk.2; subst e; obtain ⟨es, cl, hb, _⟩ := S.m1.2; rw [hb] at this; cases this
  have n2 : ¬ p = b2 := fun e => by have := S.blk.2; subst e; obtain ⟨es, cl, hb, _⟩ := S.m2.2; rw [hb] at this; cases this
  have n3 : ¬ b1 = b2 := fun e => by have e1 := S.m1.1; have e2 := S.m2.1; subst e; omega
  go_enter Tryz.func130, Tryz.ntmps130
  go_wp2_with (first
    | (at_delete; refine wpList_delete_is _ rfl _ _ 148 3 rfl 3 Tryz.underlying148 Tryz.underlying3 b1 f1 (by exact S.m1.2) rfl h rfl ?_; intro w2 hm2 ht2; have cc3 : w2.cell? ⟨p, 2, none⟩ = some (.map (some b2)) := ((ht2.cell n1).trans cc2))
    | (at_delete; refine wpList_delete_is _ rfl _ _ 100 3 rfl 4 Tryz.underlying100 Tryz.underlying3 b2 f2 (by exact S.m2.2.of_eq (ht2.block _ (fun e => n3 e.symm))) rfl h rfl ?_; intro w3 hm3 ht3))
  go_end0
  have f1 := ht2.fr ho (lo := r) (hi := r + 3) (by rw [S.m1.1]; omega)
  have f2 := ht3.fr f1.fresh (lo := r) (hi := r + 3) (by rw [S.m2.1]; omega)
  exact ⟨rfl, f1.trans f2, _, _, _, _, S.blk.of_eq ((ht3.block _ n2).trans (ht2.block _ n1)), ⟨S.m1.1, hm2.of_eq (ht3.block _ n3)⟩, ⟨S.m2.1, hm3⟩, fun k => by unfold upd; split <;> simp [S.e1], fun k => by unfold updB; split <;> simp [S.e2], S.lim1, fun k => by
    unfold upd updB
    by_cases hk : k = h
    · simp [hk]; omega
    · simpa [hk] using S.ex1 k⟩

/-- Behind New: a new table. -/
def SpillNew (o : Own) (w : World) (r : Nat) (lim : Int) (e : Ending) (w' : World) : Prop :=
  ∃ p o', e = .returned (.pointer (some ⟨p, 0, none⟩)) ∧ Fr 0 0 o o' w w' ∧ SpillRep o' w' r p lim (fun _ => 0) (fun _ => false)
theorem spill_made {o : Own} (r : Nat) (lim : Int) (w : World) (ho : Owned o w) (h0 : 1 ≤ lim) (h1 : lim ≤ 1073741824) :
    ∃ o', Fr 0 0 o o' w (((w.alloc (.map #[] 0)).alloc (.map #[] 0)).alloc (.cells #[.int .i64 lim, .map (some w.heap.size), .map (some (w.heap.size + 1))] 154)) ∧
      SpillRep o' (((w.alloc (.map #[] 0)).alloc (.map #[] 0)).alloc (.cells #[.int .i64 lim, .map (some w.heap.size), .map (some (w.heap.size + 1))] 154)) r (w.heap.size + 1 + 1) lim (fun _ => 0) (fun _ => false) := by
  have F1 := (Fr.refl (lo := 0) (hi := 0) ho).give (.map #[] 0) (r + 1)
  have M1 : MapBlk _ _ _ _ _ := MapBlk.new (o := o) (w := w) (r + 1)
  have F2 := (Fr.refl (lo := 0) (hi := 0) F1.fresh).give (.map #[] 0) (r + 2)
  have M2 : MapBlk _ _ _ _ _ := MapBlk.new (o := o.give w.heap.size (r + 1)) (w := w.alloc (.map #[] 0)) (r + 2)
  have F3 := (Fr.refl (lo := 0) (hi := 0) F2.fresh).give (.cells #[.int .i64 lim, .map (some w.heap.size), .map (some (w.heap.size + 1))] 154) r
  have B := Blk.new (o := (o.give w.heap.size (r + 1)).give (w.alloc (.map #[] 0)).heap.size (r + 2)) (w := (w.alloc (.map #[] 0)).alloc (.map #[] 0)) (.cells #[.int .i64 lim, .map (some w.heap.size), .map (some (w.heap.size + 1))] 154) r
  have N1 := (M1.keep F2 (.inr (Nat.zero_le _))).keep F3 (.inr (Nat.zero_le _))
  have N2 := M2.keep F3 (.inr (Nat.zero_le _))
  simp only [World.size_alloc] at *
  exact ⟨_, (F1.trans F2).trans F3, _, _, _, _, B, N1, N2, fun _ => rfl, fun _ => rfl, ⟨h0, h1⟩, fun _ => by simp; omega⟩

set_option maxRecDepth 100000 in
set_option maxHeartbeats 400000 in
theorem spill_new {o : Own} (r : Nat) (lim : Int) (w : World) (ho : Owned o w) (h0 : 1 ≤ lim) (h1 : lim ≤ 1073741824) :
    Calls Tryz.prog 87 #[.int .i64 lim] w (SpillNew o w r lim) := by
  have hmm := @run_makeMap Tryz.prog
  have hmade := Lib.hid (spill_made (o := o) r lim w ho h0 h1)
  go_enter Tryz.func87, Tryz.ntmps87
  go_wp2
  · go_ret
    obtain ⟨o', hf, hs⟩ := hmade.out
    exact ⟨_, o', rfl, hf, hs⟩
  · go_ret
    obtain ⟨o', hf, hs⟩ := hmade.out
    obtain rfl : lim = 1 := by omega
    exact ⟨_, o', rfl, hf, hs⟩
end Go.Proofs.YtlpklloagaccoaaGreat
