/- The walk of trial.Run. Conditions: the engine is as one that was made; handles; a million rounds at most. -/
import Derived.Test.YtlpklloagaccoaaGreatTw3
import Derived.Test.YtlpklloagaccoaaGreatRing
import Derived.Test.YtlpklloagaccoaaGreatRun4
import Derived.Deep.RegionHeld3
import Derived.Deep.CutRange
import Derived.Deep.LoopGhost
import Derived.StillTailTactics
import Derived.Outline
namespace Go.Proofs.YtlpklloagaccoaaGreat
open Go.RowKit
set_option linter.unusedVariables false

set_option maxRecDepth 100000 in
theorem rpurple {o : Own} {r p : Nat} {S : EngS} (w : World) (ho : Owned o w) (E : EngRep o w r p S) :
    Calls Tryz.prog 141 #[.pointer (some ⟨p, 0, none⟩)] w (SetPost o w S.Pu) := by
  obtain ⟨ps, pt, pz, pp, bw, bk, v, K, E, A⟩ := E
  have HL := Lib.hid (show Calls Tryz.prog 120 #[.pointer (some ⟨pp, 0, none⟩)] w (SetPost o w S.Pu) from by rw [A.Pu]; exact least_list w ho E.purple)
  have c3 := E.c3
  clear E A ho
  go_enter Tryz.func141, Tryz.ntmps141
  go_wp2_with fail
  go_at_call 120
  refine HL.out.mono ?_
  rintro e w1 ⟨v, xs, rfl, h1, h2, h3⟩
  have H := Lib.hid (And.intro h1 (And.intro h2 h3))
  clear h1 h2 h3
  go_wp2_with fail
  go_ret
  exact ⟨v, xs, rfl, H.out.1, H.out.2.1, H.out.2.2⟩
/-- A span's parts, laid. -/
theorem tr_laid {o : Own} {w : World} (p : Nat) (ho : Owned o w) : ∃ o5, Fr 60 63 o o5 w (((((w.alloc (.cells #[.pointer (some ⟨p, 0, none⟩)] 23)).alloc (.map #[] 0)).alloc (.map #[] 0)).alloc (.cells #[.pointer (some ⟨p, 0, none⟩), .map (some (w.heap.size + 1)), .map (some (w.heap.size + 1 + 1)), .slice none 0 0] 150)).alloc (.cells #[.pointer (some ⟨w.heap.size + 1 + 1 + 1, 0, none⟩)] 147)) ∧
    TwBx o5 (((((w.alloc (.cells #[.pointer (some ⟨p, 0, none⟩)] 23)).alloc (.map #[] 0)).alloc (.map #[] 0)).alloc (.cells #[.pointer (some ⟨p, 0, none⟩), .map (some (w.heap.size + 1)), .map (some (w.heap.size + 1 + 1)), .slice none 0 0] 150)).alloc (.cells #[.pointer (some ⟨w.heap.size + 1 + 1 + 1, 0, none⟩)] 147)) (w.heap.size + 1 + 1 + 1) p (inM (fun _ => false) fun _ => 0) (fun _ => false) [] (w.heap.size + 1) (w.heap.size + 1 + 1) (w.heap.size + 1 + 1 + 1 + 1) (.slice none 0 0) ∧
    Blk o5 (((((w.alloc (.cells #[.pointer (some ⟨p, 0, none⟩)] 23)).alloc (.map #[] 0)).alloc (.map #[] 0)).alloc (.cells #[.pointer (some ⟨p, 0, none⟩), .map (some (w.heap.size + 1)), .map (some (w.heap.size + 1 + 1)), .slice none 0 0] 150)).alloc (.cells #[.pointer (some ⟨w.heap.size + 1 + 1 + 1, 0, none⟩)] 147)) 0 w.heap.size (.cells #[.pointer (some ⟨p, 0, none⟩)] 23 (0, 0)) := by
  have F1 := (Fr.refl (lo := 0) (hi := 0) ho).alloc (.cells #[.pointer (some ⟨p, 0, none⟩)] 23)
  have B1 : Blk o (w.alloc (.cells #[.pointer (some ⟨p, 0, none⟩)] 23)) 0 w.heap.size (.cells #[.pointer (some ⟨p, 0, none⟩)] 23 (0, 0)) := ⟨ho _ (Nat.le_refl _), heap_alloc_new w _⟩
  have e1 : (w.alloc (.cells #[.pointer (some ⟨p, 0, none⟩)] 23)).heap.size = w.heap.size + 1 := by simp
  rw [← e1]
  generalize w.alloc (.cells #[.pointer (some ⟨p, 0, none⟩)] 23) = w1 at *
  have F2 := (Fr.refl (lo := 0) (hi := 0) F1.fresh).give (.map #[] 0) 61
  have M2 := MapBlk.new (o := o) (w := w1) 61
  have e2 : (w1.alloc (.map #[] 0)).heap.size = w1.heap.size + 1 := by simp
  rw [← e2]
  generalize o.give w1.heap.size 61 = o2 at *
  generalize w1.heap.size = bi at *
  generalize w1.alloc (.map #[] 0) = w2 at *
  have F3 := (Fr.refl (lo := 0) (hi := 0) F2.fresh).give (.map #[] 0) 62
  have M3 := MapBlk.new (o := o2) (w := w2) 62
  have e3 : (w2.alloc (.map #[] 0)).heap.size = w2.heap.size + 1 := by simp
  rw [← e3]
  generalize o2.give w2.heap.size 62 = o3 at *
  generalize w2.heap.size = bh at *
  generalize w2.alloc (.map #[] 0) = w3 at *
  have F4 := (Fr.refl (lo := 0) (hi := 0) F3.fresh).give (.cells #[.pointer (some ⟨p, 0, none⟩), .map (some bi), .map (some bh), .slice none 0 0] 150) 60
  have B4 := Blk.new (o := o3) (w := w3) (.cells #[.pointer (some ⟨p, 0, none⟩), .map (some bi), .map (some bh), .slice none 0 0] 150) 60
  have e4 : (w3.alloc (.cells #[.pointer (some ⟨p, 0, none⟩), .map (some bi), .map (some bh), .slice none 0 0] 150)).heap.size = w3.heap.size + 1 := by simp
  rw [← e4]
  generalize o3.give w3.heap.size 60 = o4 at *
  generalize w3.heap.size = s at *
  generalize w3.alloc (.cells #[.pointer (some ⟨p, 0, none⟩), .map (some bi), .map (some bh), .slice none 0 0] 150) = w4 at *
  have F5 := (Fr.refl (lo := 0) (hi := 0) F4.fresh).alloc (.cells #[.pointer (some ⟨s, 0, none⟩)] 147)
  have B5 : Blk o4 (w4.alloc (.cells #[.pointer (some ⟨s, 0, none⟩)] 147)) 0 w4.heap.size (.cells #[.pointer (some ⟨s, 0, none⟩)] 147 (0, 0)) := ⟨F4.fresh _ (Nat.le_refl _), heap_alloc_new w4 _⟩
  have c0 : ∀ (k : Int), (fun _ => none : Int → Option Value) k = inM (fun _ => false) (fun _ => 0) k := fun k => by unfold inM; simp
  have c1 : ∀ (k : Int), (fun _ => none : Int → Option Value) k = setMap (fun _ => false) k := fun k => by unfold setMap; simp
  exact ⟨o4, ((((F1.trans F2).trans F3).trans F4).trans F5).none 60 63, ⟨⟨B4.keep F5 (.inr (by omega)), (((M2.keep F3 (.inr (by omega))).keep F4 (.inr (by omega))).keep F5 (.inr (by omega))).congr c0, ((M3.keep F4 (.inr (by omega))).keep F5 (.inr (by omega))).congr c1, LRow.nil _ _ _⟩, B5⟩, (((B1.keep F2 (.inr (by omega))).keep F3 (.inr (by omega))).keep F4 (.inr (by omega))).keep F5 (.inr (by omega))⟩
theorem Blk.c0 {o : Own} {w : World} {r b : Nat} {v : Value} {t : TypeId} (h : Blk o w r b (.cells #[v] t (0, 0))) : w.cell? ⟨b, 0, none⟩ = some v := (h.cell 0).trans rfl
/-- The span, its variables. -/
def TrI (o : Own) (w : World) (S : EngS) (s p C B bi bh : Nat) (fi : Int → Option Value) (w' : World) : Prop :=
  ∃ o', Fr 1 68 o o' w w' ∧ EngRep o' w' 1 p S ∧ Tw o' w' s p fi (fun _ => false) [] bi bh ∧ Blk o' w' 0 B (.cells #[.pointer (some ⟨s, 0, none⟩)] 147 (0, 0)) ∧ Blk o' w' 0 C (.cells #[.pointer (some ⟨p, 0, none⟩)] 23 (0, 0))
theorem refsA_le {o : Own} {w : World} {r p : Nat} {S : EngS} (E : EngRep o w r p S) (y : Int) : (refsA S y).length ≤ 4000 := by
  have h1 := cellsA_le E y
  cases hx : S.ob y with
  | none => rw [refsA_none hx]; simp
  | some x =>
    rw [cellsA_of hx] at h1
    have h2 := refsN_len x.val x.cells
    unfold refsA
    split
    · simp
    · rw [hx]; dsimp only; omega
/-- How many cells of those that have come refer to one. -/
def nA (S : EngS) (oz left : List Int) : Int → Int := fun x => ((sumN (fun h => if h ∈ left then 0 else (refsA S h).count x) oz : Nat) : Int)
theorem nA_first {S : EngS} {oz left : List Int} (h : ∀ k ∈ oz, k ∈ left) : nA S oz left = fun _ => 0 := by
  funext x
  unfold nA
  rw [sumN_zero fun y hy => if_pos (h y hy)]; rfl
theorem nA_last (S : EngS) (oz : List Int) : nA S oz [] = fun x => ((cntR S oz x : Nat) : Int) := by
  funext x
  unfold nA cntR
  rw [sumN_congr (g := fun y => (refsA S y).count x) oz fun y hy => if_neg (by simp)]
theorem nA_step {S : EngS} {oz left left' : List Int} {y : Int} (nd : oz.Nodup) (hy : y ∈ oz) (hl : y ∈ left) (he : ∀ j, j ∈ left' ↔ j ∈ left ∧ j ≠ y) (x : Int) : nA S oz left' x = nA S oz left x + (((refsA S y).count x : Nat) : Int) := by
  have h1 := sumN_upd (f := fun h => if h ∈ left then 0 else (refsA S h).count x) (g := fun h => if h ∈ left' then 0 else (refsA S h).count x) oz nd hy (fun z hz => by
    by_cases e : z ∈ left
    · rw [if_pos e, if_pos ((he z).2 ⟨e, hz⟩)]
    · rw [if_neg e, if_neg (fun h => e ((he z).1 h).1)])
  have e1 : (if y ∈ left then 0 else (refsA S y).count x) = 0 := if_pos hl
  have e2 : (if y ∈ left' then 0 else (refsA S y).count x) = (refsA S y).count x := if_neg fun h => ((he y).1 h).2 rfl
  simp only [e1, e2] at h1
  unfold nA
  omega
theorem nA_bd {S : EngS} {oz left : List Int} {c : Nat} (h : ∀ y, (refsA S y).length ≤ c) (x : Int) : 0 ≤ nA S oz left x ∧ nA S oz left x ≤ ((oz.length * c : Nat) : Int) := by
  have h1 := sumN_mul (f := fun h => if h ∈ left then 0 else (refsA S h).count x) (c := c) (l := oz) fun y _ => by
    show (if y ∈ left then 0 else (refsA S y).count x) ≤ c
    have h2 := List.count_le_length (a := x) (l := refsA S y)
    have h3 := h y
    split <;> omega
  unfold nA
  omega
/-- Between two rounds. -/
def TrL (o : Own) (w : World) (s p C B bi bh r : Nat) (S : EngS) (V1 : Int → Bool) (oz left : List Int) (w' : World) : Prop :=
  ∃ o' vw, Fr 1 68 o o' w w' ∧ TwX o' w' s p (inM V1 (nA S oz left)) (fun _ => false) [] bi bh vw ∧ EngRep o' w' 1 p S ∧ Blk o' w' 0 B (.cells #[.pointer (some ⟨s, 0, none⟩)] 147 (0, 0)) ∧ Blk o' w' 0 C (.cells #[.pointer (some ⟨p, 0, none⟩)] 23 (0, 0)) ∧ o' r = 67 ∧ RngIs w' bi r (inM V1 (nA S oz left)) left ∧ (∀ k ∈ left, V1 k = true)
/-- Within a round: some of one object's references are counted. -/
def TrJ (o : Own) (w : World) (s p C B bi bh r : Nat) (S : EngS) (V1 : Int → Bool) (n : Int → Int) (left : List Int) (va : Value) (l : List Int) (w' : World) : Prop :=
  ∃ o' vw, Fr 1 68 o o' w w' ∧ TwX o' w' s p (inM V1 n) (fun _ => false) [] bi bh vw ∧ EngRep o' w' 1 p S ∧ Blk o' w' 0 B (.cells #[.pointer (some ⟨s, 0, none⟩)] 147 (0, 0)) ∧ Blk o' w' 0 C (.cells #[.pointer (some ⟨p, 0, none⟩)] 23 (0, 0)) ∧ o' r = 67 ∧ RngIs w' bi r (inM V1 n) left ∧ LRow o' w' 0 va l
def nB (n : Int → Int) (l : List Int) (i : Nat) : Int → Int := fun x => n x + (((l.take i).count x : Nat) : Int)
theorem nB_zero (n : Int → Int) (l : List Int) : nB n l 0 = n := by funext x; unfold nB; simp
theorem nB_succ (n : Int → Int) (l : List Int) {i : Nat} (hi : i < l.length) (x : Int) : nB n l (i + 1) x = nB n l i x + if l.getD i 0 = x then 1 else 0 := by
  unfold nB
  rw [take_succ_getD hi, List.count_append]
  generalize l.getD i 0 = z
  rw [List.count_cons, List.count_nil]
  by_cases e : z = x
  · subst e; simp; omega
  · rw [if_neg e]
    have : (z == x) = false := by simpa using e
    simp [this]
theorem nB_all {S : EngS} {oz left left' : List Int} {y : Int} (nd : oz.Nodup) (hy : y ∈ oz) (hl : y ∈ left) (he : ∀ j, j ∈ left' ↔ j ∈ left ∧ j ≠ y) : nB (nA S oz left) (refsA S y) (refsA S y).length = nA S oz left' := by
  funext x
  unfold nB
  rw [List.take_length, nA_step nd hy hl he]
theorem nB_skip (V : Int → Bool) (n : Int → Int) (l : List Int) {i : Nat} (hi : i < l.length) (hv : V (l.getD i 0) = false) : inM V (nB n l (i + 1)) = inM V (nB n l i) := by
  funext k
  unfold inM
  by_cases e : V k = true
  · rw [if_pos e, if_pos e, nB_succ n l hi, if_neg (fun h => by rw [h, e] at hv; cases hv), Int.add_zero]
  · rw [if_neg e, if_neg e]
theorem nB_put (V : Int → Bool) (n : Int → Int) (l : List Int) {i : Nat} (hi : i < l.length) (hv : V (l.getD i 0) = true) (j : Int) : (if j = l.getD i 0 then some (Value.int .i64 (nB n l i (l.getD i 0) + 1)) else inM V (nB n l i) j) = inM V (nB n l (i + 1)) j := by
  unfold inM
  by_cases e : j = l.getD i 0
  · rw [if_pos e, e, if_pos hv, nB_succ n l hi, if_pos rfl]
  · rw [if_neg e]
    by_cases e2 : V j = true
    · rw [if_pos e2, if_pos e2, nB_succ n l hi, if_neg (fun h => e h.symm), Int.add_zero]
    · rw [if_neg e2, if_neg e2]
theorem RdS.keepFr {lo hi : Nat} {o o' : Own} {w w' : World} {B : Nat} {k : IntKind} {A : Option Addr} {n : Nat} {l : List Int} (h : RdS w B k A n l) (hB : B ≤ w.heap.size) (F : Fr lo hi o o' w w') (hA : ∀ b off, A = some ⟨b, off, none⟩ → o b < lo ∨ hi ≤ o b) : RdS w' w'.heap.size k A n l :=
  ⟨h.1, fun hn => by
    obtain ⟨b, off, h1, h2, h3⟩ := h.2 hn
    have hb : b < w.heap.size := Nat.lt_of_lt_of_le h2 hB
    exact ⟨b, off, h1, Nat.lt_of_lt_of_le hb F.size, fun i hi => (World.cell?_of_block (a := ⟨b, off + i, none⟩) (F.block b hb (hA b off h1))).trans (h3 i hi)⟩⟩
/-- Behind the first holding. -/
def TrS (o : Own) (w : World) (S : EngS) (s p C B bi bh : Nat) (fi : Int → Option Value) (H : Int → Bool) (w' : World) : Prop :=
  ∃ o', Fr 1 68 o o' w w' ∧ EngRep o' w' 1 p S ∧ Tw o' w' s p fi H [] bi bh ∧ Blk o' w' 0 B (.cells #[.pointer (some ⟨s, 0, none⟩)] 147 (0, 0)) ∧ Blk o' w' 0 C (.cells #[.pointer (some ⟨p, 0, none⟩)] 23 (0, 0))
/-- Behind trial.Run. -/
def TrPost (o : Own) (w : World) (p : Nat) (S' : EngS) (f t : List Int) (e : Ending) (w' : World) : Prop :=
  ∃ vf vt o', e = .returned (.tuple #[vf, vt]) ∧ Fr 1 68 o o' w w' ∧ EngRep o' w' 1 p S' ∧ LRow o' w' 66 vf f ∧ LRow o' w' 65 vt t
set_option maxRecDepth 100000 in
set_option maxHeartbeats 4000000 in
theorem trial_run0 {o : Own} {p : Nat} {S S' : EngS} {f t pz oz : List Int} {V1 V2 V3 : Int → Bool} {m1 m2 m3 : Nat} (A : Option Addr) (m cap : Nat) (roots : List Int) (w : World) (ho : Owned o w) (E : EngRep o w 1 p S) (R : RdS w w.heap.size .i64 A m roots) (hA : ∀ b off, A = some ⟨b, off, none⟩ → o b < 1 ∨ 68 ≤ o b) (T : Tr S roots S' f t pz oz V1 V2 V3 m1 m2 m3)
    (hk : ∀ k ∈ roots ++ S.pend, 0 ≤ k ∧ k < KB) (hl : roots.length + S.pend.length ≤ 1000000) (hrr : ∀ y, ∀ k ∈ refsA S y, 0 ≤ k ∧ k < KB) (hpu : ∀ k, S.Pu k = true → ∃ x, S.ob k = some x) (hozl : oz.length ≤ 1000) :
    Calls Tryz.prog 85 #[.pointer (some ⟨p, 0, none⟩), .slice A m cap] w (TrPost o w p S' f t) := by
  have hmm := @run_makeMap Tryz.prog
  have HO := Lib.hid ho
  have HE := Lib.hid E
  have HR := Lib.hid R
  have HT := Lib.hid T
  have HK := Lib.hid (And.intro hk (And.intro hl (And.intro hrr hpu)))
  have HZL := Lib.hid hozl
  clear ho E R T hk hl hrr hpu hozl
  go_enter Tryz.func85, Tryz.ntmps85
  obtain ⟨o5, F5, X5, B5⟩ := tr_laid p HO.out
  go_wp2_with fail
  generalize (((((w.alloc (.cells #[.pointer (some ⟨p, 0, none⟩)] 23)).alloc (.map #[] 0)).alloc (.map #[] 0)).alloc (.cells #[.pointer (some ⟨p, 0, none⟩), .map (some (w.heap.size + 1)), .map (some (w.heap.size + 1 + 1)), .slice none 0 0] 150)).alloc (.cells #[.pointer (some ⟨w.heap.size + 1 + 1 + 1, 0, none⟩)] 147)) = w5 at *
  generalize w.heap.size + 1 + 1 + 1 + 1 = B at *
  generalize w.heap.size + 1 + 1 + 1 = s at *
  generalize w.heap.size + 1 + 1 = bh at *
  generalize w.heap.size + 1 = bi at *
  obtain ⟨C, hC⟩ : ∃ C, C = w.heap.size := ⟨_, rfl⟩
  rw [← hC] at B5 ⊢
  have HF5 := Lib.hid F5
  have HX5 := Lib.hid X5
  have HB5 := Lib.hid B5
  have HE5 := Lib.hid (HE.out.keep F5 (.inl (by omega)))
  have cB := X5.2.cell 0
  have cC := B5.cell 0
  simp only [List.getElem?_toArray, List.getElem?_cons_zero] at cB cC
  have lB := X5.2.lt
  have lC := B5.lt
  clear F5 X5 B5 hC hmm
  have HPu := Lib.hid (fun (w6 : World) (F : Fr 0 0 o5 o5 w5 w6) => rpurple w6 F.fresh (HE5.out.keep F (.inr (by omega))))
  have HRe := Lib.hid (fun (v : Value) (w7 : World) (F : Fr 0 0 o5 o5 w5 w7) (L : LRow o5 w7 0 v pz) => treach (met_span s p bi bh fun _ => false) v w7 F.fresh (HE5.out.keep F (.inr (by omega))) ⟨_, HX5.out.1.keep F (.inr (by omega))⟩ L HT.out.span HT.out.n1 (fun k hk => (HE.out.rng (HK.out.2.2.2 k ((HT.out.ps.mem k).1 hk)).choose_spec)) HK.out.2.2.1)
  go_wp2_with fail
  go_cut [] from 14 to 89 (fun w' => TrI o w S s p C B bi bh (inM V1 fun _ => 0) w')
  case first =>
   go_region_held3 (fun w' => w'.cell? ⟨B, 0, none⟩ = some (.pointer (some ⟨s, 0, none⟩)) ∧ w'.cell? ⟨C, 0, none⟩ = some (.pointer (some ⟨p, 0, none⟩))) (first | exact ⟨cB, cC⟩ | exact ⟨cB6, cC6⟩ | exact ⟨cB7, cC7⟩) (first
    | (go_at_call 141; refine (HPu.out _ (by repeat (first | exact Fr.refl HF5.out.fresh | refine Fr.drew ?_ | refine Fr.alloc ?_ _))).mono ?_; rintro e w6 ⟨v6, ps6, rfl, hps6, F6, R6⟩; obtain rfl : ps6 = pz := rise_eq hps6.sorted HT.out.ps.sorted (fun k => (hps6.mem k).trans (HT.out.ps.mem k).symm); have F56 : Fr 0 0 o5 o5 w5 w6 := (Fr.drew (Fr.refl HF5.out.fresh)).trans F6; have HF6 := Lib.hid F56; have HR6 := Lib.hid R6.row; have cB6 := F56.cell0 cB; have cC6 := F56.cell0 cC; clear F6 R6 hps6 F56)
    | (go_at_call 140; refine (HRe.out _ w6 HF6.out HR6.out).mono ?_; rintro e w7 ⟨rfl, o7, F7, X7⟩; have HF7 := Lib.hid F7; have HX7 := Lib.hid (And.intro X7 (And.intro ((HX5.out.2.keep HF6.out (.inr (by omega))).keep F7 (.inl (by omega))) ((HB5.out.keep HF6.out (.inr (by omega))).keep F7 (.inl (by omega))))); have cB7 := HX7.out.2.1.c0; have cC7 := HX7.out.2.2.c0; clear F7 X7))
   all_goals
    go_wp2_with fail
    go_meet
    case rel => exact ⟨o7, HF5.out.mono (by omega) (by omega) |>.trans ((HF6.out.none 1 68).trans (HF7.out.mono (by omega) (by omega))), (HE5.out.keep HF6.out (.inr (by omega))).keep HF7.out (.inl (by omega)), HX7.out⟩
  case rest =>
    obtain ⟨o7, F7, E7, ⟨v7, X7⟩, B7, C7⟩ := hcut
    have cB7 := B7.c0
    have cC7 := C7.c0
    have lB7 := B7.lt
    have lC7 := C7.lt
    have c17 := X7.blk.cell 1
    simp only [List.getElem?_toArray, List.getElem?_cons_zero, List.getElem?_cons_succ] at c17
    have hpl7 := X7.blk.lt
    have HF7 := Lib.hid F7
    have HX7 := Lib.hid X7
    have HB7 := Lib.hid (And.intro B7 C7)
    have HE7 := Lib.hid E7
    clear F7 E7 X7 B7 C7
    go_wp2_with (at_range; refine wpList_range_is _ rfl _ _ rfl 3 3 Tryz.underlying148 bi _ (by exact HX7.out.ins.2) rfl ?_; intro x8 left8 hR8 hm8)
    go_frame
    have F8 : Fr 67 68 o7 (o7.give wc.heap.size 67) wc (wc.alloc x8) := (Fr.refl HF7.out.fresh).give x8 67
    have hr8 : (o7.give wc.heap.size 67) wc.heap.size = 67 := by simp [Own.give]
    generalize o7.give wc.heap.size 67 = o8 at *
    generalize wc.alloc x8 = w8 at *
    generalize wc.heap.size = r at *
    have hmo : ∀ k ∈ oz, k ∈ left8 := fun k hk => (hm8 k).2 ⟨.int .i64 0, if_pos ((HT.out.os.mem k).1 hk)⟩
    have hmv : ∀ k ∈ left8, V1 k = true := fun k hk => by
      obtain ⟨v, hv⟩ := (hm8 k).1 hk
      unfold inM at hv
      by_cases e : V1 k = true
      · exact e
      · rw [if_neg e] at hv; cases hv
    have HL8 := Lib.hid (show TrL o w s p C B bi bh r S V1 oz left8 w8 from ⟨o8, v7, HF7.out.trans (F8.mono (by omega) (by omega)), by rw [nA_first hmo]; exact HX7.out.keep F8 (.inl (by omega)), HE7.out.keep F8 (.inl (by omega)), HB7.out.1.keep F8 (.inl (by omega)), HB7.out.2.keep F8 (.inl (by omega)), hr8, by rw [nA_first hmo]; exact hR8, hmv⟩)
    clear F8 hr8 hR8 hm8 hmo hmv cB7 cC7 lB7 lC7 c17 hpl7
    go_loopg [7, 9, 10, 11] left8.length (fun k _ _ _ _ wr => ∃ left, k = left.length ∧ TrL o w s p C B bi bh r S V1 oz left wr)
    case atStart => exact ⟨left8, rfl, HL8.out⟩
    case round =>
      obtain ⟨left, hkl, o9, v9, F9, X9, E9, B9, C9, hr9, N9, hv9⟩ := hrel
      have HF9 := Lib.hid F9
      have HX9 := Lib.hid X9
      have HE9 := Lib.hid E9
      have HB9 := Lib.hid (And.intro B9 C9)
      have HN9 := Lib.hid (And.intro hr9 (And.intro N9 hv9))
      have HKL := Lib.hid hkl
      clear F9 X9 E9 B9 C9 hr9 N9 hv9 hkl
      have cB9 := HB9.out.1.c0
      have cC9 := HB9.out.2.c0
      have lB9 := HB9.out.1.lt
      have lC9 := HB9.out.2.lt
      have c19 := HX9.out.blk.cell 1
      simp only [List.getElem?_toArray, List.getElem?_cons_zero, List.getElem?_cons_succ] at c19
      have lS9 := HX9.out.blk.lt
      rcases (show left = [] ∨ left ≠ [] from by cases left with | nil => exact .inl rfl | cons a l => exact .inr (by simp)) with hnil | hne
      · subst hnil
        go_wp2_with (at_next; refine wpList_next_is _ rfl _ rfl bi r _ _ (by exact HN9.out.2.1) rfl ?_ (fun y v w' l' hk => by cases hk); intro _)
        obtain ⟨o9', w9', v9', hq9⟩ : ∃ (o' : Own) (w' : World) (v' : Value), o' = o9 ∧ w' = wr ∧ v' = v9 := ⟨_, _, _, rfl, rfl, rfl⟩
        obtain ⟨rfl, rfl, rfl⟩ := hq9
        have hX9 := HX9.out
        rw [nA_last] at hX9
        have HXa := Lib.hid hX9
        clear hX9 c19 lS9 HX9 HN9
        have HPe := Lib.hid (rpending w9' HF9.out.fresh HE9.out (by have := HK.out.2.1; omega))
        go_at_call 79
        refine HPe.out.mono ?_
        rintro e w10 ⟨v10, rfl, F10, R10⟩
        obtain ⟨A10, c10, hv10, hrd10⟩ := R10.row.rd
        subst hv10
        have HF10 := Lib.hid (HF9.out.trans (F10.none 1 68))
        have HG10 := Lib.hid F10
        have HRD10 := Lib.hid hrd10
        clear F10 R10 hrd10
        have HCC := Lib.hid (fun (a : Nat) (ha : a = w10.heap.size) => concat_twoI (c1 := cap) (c2 := c10) (T := 38) w10 HF10.out.fresh (HR.out.keepFr (Nat.le_refl _) HF10.out hA) HRD10.out (by have := HK.out.2.1; omega) ha)
        go_wp2_with fail
        go_at_call 134
        refine (HCC.out _ rfl).mono ?_
        rintro e w11 ⟨v11, rfl, F11, R11⟩
        obtain ⟨A11, c11, hv11, _, _⟩ := R11.form
        rw [List.length_append] at hv11
        subst hv11
        have G11 : Fr 0 0 o9' o9' w9' w11 := (HG10.out.alloc _).trans F11
        have HG11 := Lib.hid G11
        have HR11 := Lib.hid R11.toNew
        clear F11 R11 G11
        have HDS := Lib.hid (dset_any A11 (roots.length + S.pend.length) c11 (roots ++ S.pend) w11 HG11.out.fresh HR11.out (by have := HK.out.2.1; omega) HK.out.1)
        go_wp2_with fail
        go_at_call 133
        refine HDS.out.mono ?_
        rintro e w12 ⟨bk, o12, rfl, F12, M12⟩
        have G13 : Fr 51 52 o9' o12 w9' (w12.alloc (.cells #[.map (some bk)] 100)) := ((HG11.out.none 51 52).trans F12).alloc _
        have K13 : Fr 0 0 o12 o12 w12 (w12.alloc (.cells #[.map (some bk)] 100)) := (Fr.refl F12.fresh).alloc _
        have D13 : Blk o12 (w12.alloc (.cells #[.map (some bk)] 100)) 0 w12.heap.size (.cells #[.map (some bk)] 100 (0, 0)) := ⟨F12.fresh _ (Nat.le_refl _), heap_alloc_new w12 _⟩
        have M13 := M12.keep K13 (.inr (by omega))
        have cD13 := D13.c0
        have lD13 := D13.lt
        clear F12 M12 K13
        go_wp2_with fail
        generalize w12.alloc (.cells #[.map (some bk)] 100) = w13 at *
        generalize w12.heap.size = D at *
        have HF13 := Lib.hid (HF9.out.trans (G13.mono (lo' := 1) (hi' := 68) (by omega) (by omega)))
        have HR1 := Lib.hid (show R1At s p S V1 (fun _ => false) (keptA S roots) (fun x => ((cntR S oz x : Nat) : Int)) [] bi bh B D bk v9' o12 w13 from ⟨G13.fresh, HE9.out.keep G13 (.inl (by omega)), ⟨HXa.out.keep G13 (.inr (by omega)), HB9.out.1.keep G13 (.inl (by omega))⟩, D13, M13⟩)
        have HC13 := Lib.hid (HB9.out.2.keep G13 (.inl (by omega)))
        have cB13 := HR1.out.2.2.1.2.c0
        have lB13 := HR1.out.2.2.1.2.lt
        clear G13 D13 M13 cB9 cC9 lB9 lC9
        have HOZ := Lib.hid (show oz.length ≤ 1048576 by have := HZL.out; omega)
        have HLv := Lib.hid (fun k (hk : k ∈ oz) => show V1 k = true ∧ ∃ x, S.ob k = some x from ⟨(HT.out.os.mem k).1 hk, (HT.out.span.live k ((HT.out.os.mem k).1 hk)).resolve_left (by decide)⟩)
        have HOb := Lib.hid (fun (w14 : World) (F : Fr 0 0 o12 o12 w13 w14) => tobjects w14 F.fresh (HR1.out.2.2.1.1.keep F (.inr (by omega))))
        have HDe := Lib.hid (fun (v : Value) (o' : Own) (w' : World) (G : Fr 64 65 o12 o' w13 w') (L : LRow o' w' 64 v oz) => delete_func (run1_pred (s := s) (p := p) (rs := 64) (S := S) (V := V1) (H := fun _ => false) (kept := keptA S roots) (n := fun x => ((cntR S oz x : Nat) : Int)) (ws := []) (bi := bi) (bh := bh) (B := B) (C := D) (bk := bk) (vw := v9') oz (by omega) HLv.out) v 64 65 (fun o o' w w' k => k.none 64 65) ⟨Nat.le_refl _, by omega⟩ G.fresh L (HR1.out.keep G (.inl (by omega))) HOZ.out)
        have HRh := Lib.hid (fun (v : Value) (o' : Own) (w' : World) (hR : R1At s p S V1 (fun _ => false) (keptA S roots) (fun x => ((cntR S oz x : Nat) : Int)) [] bi bh B D bk v9' o' w') (L : LRow o' w' 64 v (oz.filter fun h => keptA S roots h || outA S oz h)) => treach (met_hold s p bi bh (inM V1 fun x => ((cntR S oz x : Nat) : Int))) v w' hR.1 hR.2.1 ⟨_, hR.2.2.1.1⟩ L HT.out.hold HT.out.n2 (fun k hk => HE.out.rng (HLv.out k (List.mem_filter.1 hk).1).2.choose_spec) HK.out.2.2.1)
        go_cut [] from 14 to 89 (fun w' => TrS o w S s p C B bi bh (inM V1 fun x => ((cntR S oz x : Nat) : Int)) V2 w')
        case first =>
          go_region_held3 (fun w' => w'.cell? ⟨B, 0, none⟩ = some (.pointer (some ⟨s, 0, none⟩))) (first | exact cB13 | exact cB15 | exact cB17 | exact cB19) (first
            | (go_at_call 143; refine (HOb.out _ (by repeat (first | exact Fr.refl HF13.out.fresh | refine Fr.drew ?_ | refine Fr.alloc ?_ _))).mono ?_; rintro e w15 ⟨v15, os15, rfl, hos15, F15, R15⟩; obtain rfl : os15 = oz := rise_eq hos15.sorted HT.out.os.sorted (fun k => (hos15.mem k).trans (HT.out.os.mem k).symm); obtain ⟨o16, G16, L16⟩ := R15.own F15 64; have HG16 := Lib.hid (show Fr 64 65 o12 o16 w13 w15 from (Fr.drew (Fr.refl HF13.out.fresh)).trans G16); have HL16 := Lib.hid L16; have cB15 := (HR1.out.2.2.1.2.keep HG16.out (.inl (by omega))).c0; clear hos15 F15 R15 G16 L16)
            | (go_at_call 131; refine (HDe.out v15 o16 w15 HG16.out HL16.out).mono ?_; rintro e w17 ⟨o18, v18, rfl, F18, L18, R18⟩; have HG18 := Lib.hid (HG16.out.trans F18); have HR18 := Lib.hid R18; have hfe : (os15.filter fun x => !(!(keptA S roots x || (S.st x || decide (((cntR S os15 x : Nat) : Int) < S.tot x))))) = os15.filter fun h => keptA S roots h || outA S os15 h := (List.filter_congr fun x _ => Bool.not_not _); rw [hfe] at L18; have HL18 := Lib.hid L18; have cB17 := HR18.out.2.2.1.2.c0; clear F18 R18 L18 hfe)
            | (go_at_call 140; refine (HRh.out v18 o18 w17 HR18.out HL18.out).mono ?_; rintro e w19 ⟨rfl, o19, F19, X19⟩; have HG19 := Lib.hid F19; have HX19 := Lib.hid X19; have cB19 := (HR18.out.2.2.1.2.keep F19 (.inl (by omega))).c0; clear F19 X19))
          all_goals
            go_wp2_with fail
            go_meet
            case rel => exact ⟨o19, (HF13.out.trans (HG18.out.mono (by omega) (by omega))).trans (HG19.out.mono (by omega) (by omega)), HR18.out.2.1.keep HG19.out (.inl (by omega)), HX19.out, HR18.out.2.2.1.2.keep HG19.out (.inl (by omega)), (HC13.out.keep HG18.out (.inl (by omega))).keep HG19.out (.inl (by omega))⟩
        case rest =>
          obtain ⟨o20, F20, E20, ⟨v20, X20⟩, B20, C20⟩ := hcut
          have cB20 := B20.c0
          have lB20 := B20.lt
          have HF20 := Lib.hid F20
          have HE20 := Lib.hid E20
          have HX20 := Lib.hid (show TwBx o20 wc s p (inM V1 fun x => ((cntR S oz x : Nat) : Int)) V2 [] bi bh B v20 from ⟨X20, B20⟩)
          have HC20 := Lib.hid C20
          have HV1 := Lib.hid (fun k (hk : V1 k = true) => HE.out.rng (HLv.out k ((HT.out.os.mem k).2 hk)).2.choose_spec)
          clear F20 E20 X20 B20 C20 HOb HDe HRh HR1 HC13 cB13 lB13 cD13 lD13
          have HWa := Lib.hid (twaste 65 (by omega) wc HF20.out.fresh HX20.out.1 HV1.out)
          go_wp2_with fail
          go_at_call 147
          refine HWa.out.mono ?_
          rintro e w21 ⟨v21, os21, o21, rfl, hos21, F21, L21⟩
          obtain rfl : os21 = oz := rise_eq hos21.sorted HT.out.os.sorted (fun k => (hos21.mem k).trans (HT.out.os.mem k).symm)
          have HF21 := Lib.hid F21
          have HL21 := Lib.hid L21
          have hZ2 : ZKeep 65 (fun o' w' => TwBx o' w' s p (inM V1 fun x => ((cntR S os21 x : Nat) : Int)) V2 [] bi bh B v20) := ⟨fun o o' w w' h k => h.keep k (.inr ⟨by omega, .inl (by omega)⟩), fun o o' w w' h k => h.keep k (.inl (by omega))⟩
          have HD2 := Lib.hid (delete_func (run2_pred (p := p) (C := C) (rs := 65) (S := S) (os21.filter fun h => !V2 h) (by omega) hZ2 ((sorted_nodup HT.out.os.sorted).filter _) (fun k hk => (HLv.out k (List.mem_filter.1 hk).1).2) (by have := HK.out.2.1; have := HZL.out; have := List.length_filter_le (fun h => !V2 h) os21; omega)) v21 1 66 (fun o o' w w' k => k.mono (by omega) (by omega)) ⟨by omega, by omega⟩ HF21.out.fresh HL21.out ⟨by rw [List.take_zero]; exact ⟨HF21.out.fresh, HE20.out.keep HF21.out (.inl (by omega)), HC20.out.keep HF21.out (.inl (by omega))⟩, HX20.out.keep HF21.out (.inl (by omega))⟩ (by have := HZL.out; have := List.length_filter_le (fun h => !V2 h) os21; omega))
          have hft : ((os21.filter fun h => !V2 h).filter fun x => !(!S.wat x)) = t := (List.filter_congr fun x _ => Bool.not_not _).trans HT.out.told.symm
          have HFt := Lib.hid hft
          have HTt := Lib.hid HT.out.told
          clear hos21 F21 L21 cB20 lB20 hZ2 hft
          obtain ⟨A21, c21, hv21, _⟩ := HL21.out.rd
          subst hv21
          go_wp2_with fail
          go_at_call 131
          refine HD2.out.mono ?_
          rintro e w22 ⟨o22, v22, rfl, F22, L22, R22⟩
          rw [HFt.out] at L22
          rw [List.take_length, ← HTt.out] at R22
          have HF22 := Lib.hid ((HF20.out.trans (HF21.out.mono (lo' := 1) (hi' := 68) (by omega) (by omega))).trans (F22.mono (by omega) (by omega)))
          have HL22 := Lib.hid L22
          have HE22 := Lib.hid R22.1
          have HX22 := Lib.hid R22.2
          have cB22 := R22.2.2.c0
          have lB22 := R22.2.2.lt
          clear F22 L22 R22
          obtain ⟨A22, c22, hv22, _⟩ := HL22.out.rd
          subst hv22
          have HRc := Lib.hid (treach (met_hold s p bi bh (inM V1 fun x => ((cntR S os21 x : Nat) : Int))) _ w22 HF22.out.fresh HE22.out.2.1 ⟨_, HX22.out.1⟩ HL22.out HT.out.more HT.out.n3 (fun k hk => HE.out.rng (HLv.out k (by rw [HTt.out] at hk; exact (List.mem_filter.1 (List.mem_filter.1 hk).1).1)).2.choose_spec) (fun y k hk => HK.out.2.2.1 y k (by rw [tellsA_refs] at hk; exact hk)))
          go_wp2_with fail
          go_at_call 140
          refine HRc.out.mono ?_
          rintro e w23 ⟨rfl, o23, F23, X23⟩
          obtain ⟨v23, X23⟩ := X23
          have HF23 := Lib.hid (HF22.out.trans (F23.mono (lo' := 1) (hi' := 68) (by omega) (by omega)))
          have HX23 := Lib.hid X23
          have HE23 := Lib.hid (HE22.out.keep F23 (.inl (by omega)))
          have HL23 := Lib.hid (HL22.out.keep F23 (.inr (by omega)))
          have HB23 := Lib.hid (HX22.out.2.keep F23 (.inl (by omega)))
          have cB23 := HB23.out.c0
          have lB23 := HB23.out.lt
          clear F23 X23 cB22 lB22
          have HWb := Lib.hid (twaste 66 (by omega) w23 HF23.out.fresh HX23.out HV1.out)
          go_wp2_with fail
          go_at_call 147
          refine HWb.out.mono ?_
          rintro e w24 ⟨v24, os24, o24, rfl, hos24, F24, L24⟩
          obtain rfl : os24 = os21 := rise_eq hos24.sorted HT.out.os.sorted (fun k => (hos24.mem k).trans (HT.out.os.mem k).symm)
          rw [← HT.out.freed] at L24
          have HF24 := Lib.hid F24
          have HL24 := Lib.hid L24
          have hfl : f.length ≤ 1000 := by rw [HT.out.freed]; have := HZL.out; have := List.length_filter_le (fun h => !V3 h) os24; omega
          have hZ3 : ZKeep 66 (fun o' w' => LRow o' w' 65 (.slice A22 t.length c22) t) := ⟨fun o o' w w' h k => h.keep k (.inr (by omega)), fun o o' w w' h k => h.keep k (.inl (by omega))⟩
          have HD3 := Lib.hid (delete_func (run3_pred (p := p) (C := C) (rs := 66) (S := tellsA S t) f (by omega) hZ3 (by rw [HT.out.freed]; exact (sorted_nodup HT.out.os.sorted).filter _) (fun k hk => by rw [(tellsA_ob S t).1]; rw [HT.out.freed] at hk; exact (HLv.out k (List.mem_filter.1 hk).1).2) (by rw [(tellsA_ob S t).2.2, List.length_append, HTt.out]; have := HK.out.2.1; have := HZL.out; have h1 := List.length_filter_le S.wat (os24.filter fun h => !V2 h); have := List.length_filter_le (fun h => !V2 h) os24; omega)) v24 1 67 (fun o o' w w' k => k.mono (by omega) (by omega)) ⟨by omega, by omega⟩ HF24.out.fresh HL24.out ⟨by rw [List.take_zero]; exact HE23.out.keep HF24.out (.inl (by omega)), HL23.out.keep HF24.out (.inl (by omega))⟩ (by omega))
          have hff : (f.filter fun x => !(fun _ => false : Int → Bool) x) = f := List.filter_eq_self.2 fun k _ => rfl
          have HFf := Lib.hid hff
          clear hos24 F24 L24 cB23 lB23 hZ3 hff hfl
          obtain ⟨A24, c24, hv24, _⟩ := HL24.out.rd
          subst hv24
          go_wp2_with fail
          go_at_call 131
          refine HD3.out.mono ?_
          rintro e w25 ⟨o25, v25, rfl, F25, L25, R25⟩
          rw [HFf.out] at L25
          rw [List.take_length, ← HT.out.end_] at R25
          have HZ := Lib.hid (And.intro ((HF23.out.trans (HF24.out.mono (lo' := 1) (hi' := 68) (by omega) (by omega))).trans (F25.mono (by omega) (by omega))) (And.intro L25 R25))
          clear F25 L25 R25
          go_wp2_with fail
          go_ret2
          exact ⟨_, _, o25, rfl, HZ.out.1, HZ.out.2.2.1.2.1, HZ.out.2.1, HZ.out.2.2.2⟩
      · go_wp2_with (at_next; refine wpList_next_is _ rfl _ rfl bi r _ _ (by exact HN9.out.2.1) rfl (fun e => absurd e hne) ?_; intro y vy w10 left' hy hvy hR10 hl10 hlt10 ht10 hen; have H10 := Lib.hid (And.intro hy (And.intro hvy (And.intro hR10 (And.intro hl10 (And.intro hlt10 ht10))))); clear hy hvy hR10 hl10 hlt10 ht10 hne; have F10 := Lib.hid (H10.out.2.2.2.2.2.fr (lo := 67) (hi := 68) HF9.out.fresh (by rw [HN9.out.1]; omega)); have cC10 := (H10.out.2.2.2.2.2.cell (a := ⟨C, 0, none⟩) (by intro e; have e' : C = r := e; have h1 := HB9.out.2.1; rw [e', HN9.out.1] at h1; omega)).trans cC9; have lC10 := Nat.lt_of_lt_of_le lC9 F10.out.size; clear cB9 cC9 lB9 lC9 c19 lS9)
        have HE10 := Lib.hid (HE9.out.keep F10.out (.inl (by omega)))
        have HRf := Lib.hid (rrefs y w10 (by omega) F10.out.fresh HE10.out)
        have hrl : ((refsA S y).length : Int) ≤ 4000 := by have := refsA_le HE.out y; omega
        go_at_call 38
        refine HRf.out.mono ?_
        rintro e w11 ⟨v11, rfl, F11, R11⟩
        obtain ⟨Ar, cr, hvr, _⟩ := R11.row.rd
        subst hvr
        have G11 := F10.out.trans (F11.none 67 68)
        have HJ := Lib.hid (show TrJ o w s p C B bi bh r S V1 (nB (nA S oz left) (refsA S y) 0) left' (.slice Ar (refsA S y).length cr) (refsA S y) w11 from ⟨o9, v9, HF9.out.trans (G11.mono (by omega) (by omega)), by rw [nB_zero]; exact HX9.out.keep G11 (.inl (by omega)), HE10.out.keep F11 (.inr (by omega)), HB9.out.1.keep G11 (.inl (by omega)), HB9.out.2.keep G11 (.inl (by omega)), HN9.out.1, by
          rw [nB_zero]
          exact H10.out.2.2.1.of_eq (F11.block _ H10.out.2.2.1.mapIs.lt (.inr (Nat.zero_le _))) (F11.block _ H10.out.2.2.1.ltr (.inr (Nat.zero_le _))), R11.row⟩)
        clear F11 R11 G11 cC10 lC10
        go_wp2_with fail
        go_loopw [40] (fun iv wq => ∃ (i : Nat), i ≤ (refsA S y).length ∧ iv = .int .i64 i ∧ TrJ o w s p C B bi bh r S V1 (nB (nA S oz left) (refsA S y) i) left' (.slice Ar (refsA S y).length cr) (refsA S y) wq) (fun iv _ => (refsA S y).length - (intOf iv).toNat)
        case atStart => exact ⟨0, by omega, rfl, HJ.out⟩
        case round =>
          obtain ⟨i, hi, rfl, o12, v12, F12, X12, E12, B12, C12, hr12, N12, L12⟩ := hrel
          have cB12 := B12.c0
          have lB12 := B12.lt
          have c112 := X12.blk.cell 1
          simp only [List.getElem?_toArray, List.getElem?_cons_zero, List.getElem?_cons_succ] at c112
          have lS12 := X12.blk.lt
          have HF12 := Lib.hid F12
          have HX12 := Lib.hid X12
          have HE12 := Lib.hid E12
          have HB12 := Lib.hid (And.intro B12 (And.intro C12 (And.intro hr12 N12)))
          have HL12 := Lib.hid L12
          by_cases hin : i < (refsA S y).length
          · have hin' : (i : Int) < (((refsA S y).length : Nat) : Int) := by omega
            obtain ⟨ga, rfl, hga, hca, _, _⟩ := L12.at_ hin
            obtain ⟨kx0, kx1⟩ := HK.out.2.2.1 y _ (getD_mem hin)
            have hlt := MapIs.lookup (P := Tryz.prog) X12.ins.2 Tryz.underlying148 Tryz.underlying3 (z := .int .i64 0) (fun w => by kernel_rfl) true ((refsA S y).getD i 0)
            have hlf := MapIs.lookup (P := Tryz.prog) X12.ins.2 Tryz.underlying148 Tryz.underlying3 (z := .int .i64 0) (fun w => by kernel_rfl) false ((refsA S y).getD i 0)
            rw [if_pos rfl, (inM_get V1 _ _).1, (inM_get V1 _ _).2] at hlt
            simp only [Bool.false_eq_true, if_false] at hlf
            rw [(inM_get V1 _ _).1] at hlf
            have hbd := nA_bd (oz := oz) (left := left) (fun y => refsA_le HE.out y) ((refsA S y).getD i 0)
            have hcb : ((((refsA S y).take i).count ((refsA S y).getD i 0) : Nat) : Int) ≤ 4000 := by
              have h1 := List.count_le_length (a := (refsA S y).getD i 0) (l := (refsA S y).take i)
              rw [List.length_take] at h1
              omega
            have hoz := HT.out.os.len_le (fun k hk => (HE.out.rng ((HT.out.span.live k hk).resolve_left (by decide)).choose_spec))
            have hq0 : 0 ≤ nB (nA S oz left) (refsA S y) i ((refsA S y).getD i 0) := by unfold nB; omega
            have hq1 : nB (nA S oz left) (refsA S y) i ((refsA S y).getD i 0) ≤ 9000000000 := by
              unfold nB
              have : oz.length * 4000 ≤ 1048576 * 4000 := Nat.mul_le_mul_right _ hoz
              omega
            have HPut := Lib.hid (fun hv => nB_put V1 (nA S oz left) (refsA S y) hin hv)
            have HSkip := Lib.hid (fun hv => nB_skip V1 (nA S oz left) (refsA S y) hin hv)
            clear F12 X12 E12 B12 C12 hr12 N12 L12 hbd hcb hoz
            have HIn := Lib.hid hin
            clear hin hi
            generalize hQ : nB (nA S oz left) (refsA S y) i ((refsA S y).getD i 0) = q at *
            generalize hX : (refsA S y).getD i 0 = x at *
            have HQX := Lib.hid (And.intro hQ hX)
            clear hQ hX
            cases hv : V1 x with
            | false =>
              rw [hv] at hlt hlf
              have hs := HSkip.out hv
              simp only [Bool.false_eq_true, if_false] at hlt hlf
              have HS := Lib.hid hs
              clear hs hv
              go_wp2_with fail
              exact ⟨⟨i + 1, by have := HIn.out; omega, by go_num, o12, v12, HF12.out, by rw [HS.out]; exact HX12.out, HE12.out, HB12.out.1, HB12.out.2.1, HB12.out.2.2.1, by rw [HS.out]; exact HB12.out.2.2.2, HL12.out⟩, by have := HIn.out; simp [intOf]; omega⟩
            | true =>
              rw [hv] at hlt hlf
              rw [if_pos rfl] at hlt hlf
              have HP := Lib.hid (HPut.out hv)
              have HV := Lib.hid hv
              clear hv
              have hwq : IntKind.i64.wrap (q + 1) = q + 1 := by rw [IntKind.wrap_i64]; omega
              go_wp2_with (at_mapUpdate; refine wpList_mapUpdate_rng _ rfl _ _ _ 148 rfl 3 3 Tryz.underlying148 Tryz.underlying3 bi r _ left' (by exact HB12.out.2.2.2) rfl x rfl kx0 kx1 ⟨_, if_pos HV.out⟩ _ rfl ?_; intro w13 hm13 ht13; have HM13 := Lib.hid (And.intro hm13 ht13); clear hm13 ht13)
              have F13 := Lib.hid (HM13.out.2.fr (lo := 61) (hi := 62) HF12.out.fresh (by rw [HX12.out.ins.1]; omega))
              have N13 := HM13.out.1.congr HP.out
              exact ⟨⟨i + 1, by have := HIn.out; omega, by go_num, o12, v12, HF12.out.trans (F13.out.mono (by omega) (by omega)), ⟨HX12.out.blk.keep F13.out (.inl (by omega)), ⟨HX12.out.ins.1, N13.mapIs⟩, HX12.out.held.keep F13.out (.inr (by omega)), HX12.out.work.keep F13.out (.inr (by omega))⟩, HE12.out.keep F13.out (.inl (by omega)), HB12.out.1.keep F13.out (.inl (by omega)), HB12.out.2.1.keep F13.out (.inl (by omega)), HB12.out.2.2.1, N13, HL12.out.keep F13.out (.inl (by omega))⟩, by have := HIn.out; simp [intOf]; omega⟩
          · have hin' : ¬ (i : Int) < (((refsA S y).length : Nat) : Int) := by omega
            obtain rfl : i = (refsA S y).length := by omega
            clear F12 X12 E12 B12 C12 hr12 N12 L12 hin hi cB12 lB12 c112 lS12
            go_wp2_with fail
            have hnl := nB_all (S := S) (oz := oz) (sorted_nodup HT.out.os.sorted) ((HT.out.os.mem y).2 (HN9.out.2.2 y H10.out.1)) H10.out.1 H10.out.2.2.2.1
            have HNL := Lib.hid hnl
            clear hnl
            go_roundg left'.length
            case measure => rw [HKL.out]; exact H10.out.2.2.2.2.1
            case rel => exact ⟨left', rfl, o12, v12, HF12.out, by rw [← HNL.out]; exact HX12.out, HE12.out, HB12.out.1, HB12.out.2.1, HB12.out.2.2.1, by rw [← HNL.out]; exact HB12.out.2.2.2, fun k hk => HN9.out.2.2 k ((H10.out.2.2.2.1 k).1 hk).1⟩
/-- What a run asks of an engine. -/
structure Fit (roots : List Int) (S : EngS) : Prop where
  rng : ∀ k ∈ roots ++ S.pend, 0 ≤ k ∧ k < KB
  len : roots.length + S.pend.length ≤ 1000000
  z : ∀ k, S.Z k = true → 0 ≤ k ∧ k < KB
  refs : ∀ y, ∀ k ∈ refsA S y, 0 ≤ k ∧ k < KB
  pu : ∀ k, S.Pu k = true → ∃ x, S.ob k = some x
theorem trial_run {o : Own} {p : Nat} {S S' : EngS} {f t : List Int} (A : Option Addr) (m cap : Nat) (roots : List Int) (w : World) (ho : Owned o w) (E : EngRep o w 1 p S) (R : RdS w w.heap.size .i64 A m roots) (hA : ∀ b off, A = some ⟨b, off, none⟩ → o b < 1 ∨ 68 ≤ o b) (T : TrR S roots S' f t) (X : Fit roots S) :
    Calls Tryz.prog 85 #[.pointer (some ⟨p, 0, none⟩), .slice A m cap] w (TrPost o w p S' f t) :=
  let ⟨_, _, _, _, _, _, _, _, hl, T⟩ := T; trial_run0 A m cap roots w ho E R hA T X.rng X.len X.refs X.pu hl
end Go.Proofs.YtlpklloagaccoaaGreat
