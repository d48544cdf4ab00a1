/- The engine's reads in plain words (count.Kind, Cells, Cell, Count). Conditions: the engine is as one that was made. Lists and dicts, what they share (list.Sized, Size, Store). Conditions: the engine is as one that was made; the handle is an object's. Stores that grow (list.Room). Conditions: the engine is as one that was made; what the old store refers to are objects. -/
import Derived.Test.YtlpklloagaccoaaGreatEngSet
import Derived.Outline
namespace Go.Proofs.YtlpklloagaccoaaGreat
open Go.RowKit
set_option linter.unusedVariables false

def kindA (S : EngS) (h : Int) : Nat := match S.ob h with | some x => x.kind | none => 0
def cellsA (S : EngS) (h : Int) : Nat := match S.ob h with | some x => x.cells | none => 0
def cellA (S : EngS) (h i : Int) : Value :=
  match S.ob h with
  | none => .tuple #[valV 0 0, .int .i64 3]
  | some x => if i < 0 ∨ (x.cells : Int) ≤ i then .tuple #[valV 0 0, .int .i64 6] else .tuple #[valV (x.val i.toNat).1 (x.val i.toNat).2, .int .i64 0]
theorem AbsK.kind {K : EngK} {S : EngS} (A : AbsK K S) (h : Int) : kindOf K h = kindA S h := by
  unfold kindOf kindA
  rw [A.ob h]
  cases K.ob h <;> rfl
theorem AbsK.cells {K : EngK} {S : EngS} (A : AbsK K S) (h : Int) : cellsOf K h = cellsA S h := by
  unfold cellsOf cellsA
  rw [A.ob h]
  cases K.ob h <;> rfl
theorem AbsK.cell {K : EngK} {S : EngS} (A : AbsK K S) (h i : Int) : cellAns K h i = cellA S h i := by
  unfold cellAns cellA
  rw [A.ob h]
  cases K.ob h <;> rfl
theorem EngX.rep {o : Own} {w : World} {r p : Nat} {S : EngS} {ps pt pz pp bw bk : Nat} {v : Value} (E : EngX o w r p S ps pt pz pp bw bk v) : EngRep o w r p S := ⟨_, _, _, _, _, _, _, E⟩
theorem rkind {o : Own} {r p : Nat} {S : EngS} (h : Int) (w : World) (ho : Owned o w) (E : EngRep o w r p S) :
    Calls Tryz.prog 33 #[.pointer (some ⟨p, 0, none⟩), .int .i64 h] w fun e w' => e = .returned (.int .i64 (kindA S h : Nat)) ∧ Below w.heap.size w w' := by
  obtain ⟨ps, pt, pz, pp, bw, bk, v, K, E, A⟩ := E
  rw [← A.kind h]
  exact ekind_any h w ho ⟨_, _, _, _, _, _, _, E⟩
theorem rcells {o : Own} {r p : Nat} {S : EngS} (h : Int) (w : World) (ho : Owned o w) (E : EngRep o w r p S) :
    Calls Tryz.prog 32 #[.pointer (some ⟨p, 0, none⟩), .int .i64 h] w fun e w' => e = .returned (.int .i64 (cellsA S h : Nat)) ∧ Below w.heap.size w w' := by
  obtain ⟨ps, pt, pz, pp, bw, bk, v, K, E, A⟩ := E
  rw [← A.cells h]
  exact ecells_any h w ho ⟨_, _, _, _, _, _, _, E⟩
theorem rcell {o : Own} {r p : Nat} {S : EngS} (h i : Int) (w : World) (ho : Owned o w) (E : EngRep o w r p S) :
    Calls Tryz.prog 30 #[.pointer (some ⟨p, 0, none⟩), .int .i64 h, .int .i64 i] w fun e w' => e = .returned (cellA S h i) ∧ Below w.heap.size w w' := by
  obtain ⟨ps, pt, pz, pp, bw, bk, v, K, E, A⟩ := E
  rw [← A.cell h i]
  exact ecell_any h i w ho ⟨_, _, _, _, _, _, _, E⟩
theorem cellA_in {S : EngS} {h : Int} {x : Ob} (hx : S.ob h = some x) {i : Int} {k : Nat} (hi : i = k) (hk : k < x.cells) : cellA S h i = .tuple #[valV (x.val k).1 (x.val k).2, .int .i64 0] := by
  subst hi
  unfold cellA
  rw [hx]
  show (if (k : Int) < 0 ∨ (x.cells : Int) ≤ (k : Int) then _ else _) = _
  rw [if_neg (by omega)]
  rfl
theorem kindA_of {S : EngS} {h : Int} {x : Ob} (hx : S.ob h = some x) : kindA S h = x.kind := by unfold kindA; rw [hx]
theorem cellsA_of {S : EngS} {h : Int} {x : Ob} (hx : S.ob h = some x) : cellsA S h = x.cells := by unfold cellsA; rw [hx]
/-- Behind a call that gives a number, on the engine in plain words. -/
def EngDo (o : Own) (w : World) (r p : Nat) (S : EngS) (v : Value) (e : Ending) (w' : World) : Prop := e = .returned v ∧ ∃ o', Fr r (r + 29) o o' w w' ∧ EngRep o' w' r p S
theorem rset {o : Own} {r p : Nat} {S : EngS} (h i : Int) (x : Ob) (k q : Nat) (n : Int) (w : World) (hr : 1 ≤ r) (ho : Owned o w) (E : EngRep o w r p S) (hx : S.ob h = some x) (hi : i = k) (hk : k < x.cells) (hq : q ≤ 3) (hn : in64 n)
    (hv : q = 3 → ∃ y, S.ob n = some y) (hw : S.weak h = false → (x.val k).1 = 3 → ∃ y, S.ob (x.val k).2 = some y) :
    Calls Tryz.prog 68 #[.pointer (some ⟨p, 0, none⟩), .int .i64 h, .int .i64 i, valV q n] w (EngDo o w r p (setA S h x k q n) (.int .i64 0)) := by
  obtain ⟨ps, pt, pz, pp, bw, bk, v, E⟩ := E
  exact (xset_any h i x k q n w hr ho E hx hi hk hq hn hv hw).mono fun e w' hh => by
    obtain ⟨h1, o', F, E'⟩ := hh
    exact ⟨h1, o', F, E'.rep⟩
set_option maxRecDepth 100000 in
theorem rcount {o : Own} {r p : Nat} {S : EngS} (h : Int) (x : Ob) (w : World) (ho : Owned o w) (E : EngRep o w r p S) (hx : S.ob h = some x) :
    Calls Tryz.prog 39 #[.pointer (some ⟨p, 0, none⟩), .int .i64 h] w fun e w' => e = .returned (.tuple #[.int .i64 (S.tot h), .bool (S.st h)]) ∧ Below w.heap.size w w' := by
  obtain ⟨ps, pt, pz, pp, bw, bk, v, K, E, A⟩ := E
  obtain ⟨y, hy, _, ht⟩ := A.of_some hx
  have hcn := (E.sp.obok hy).2.2.2
  have HHd := Lib.hid (fun (w1 : World) (F : Fr 0 0 o o w w1) => show Calls Tryz.prog 54 #[.pointer (some ⟨ps, 0, none⟩), .int .i64 h] w1 fun e w' => ∃ (col : Nat) (z : Bool), e = .returned (.tuple #[hdV y.kind y.cells y.raw y.cnt col z false, .int .i64 0]) ∧ Fr 0 0 o o w w' from
    (ohead_yes h y w1 F.fresh (E.sp.keep F (.inr (Nat.zero_le _))) hy).mono fun e w' h => by
      obtain ⟨c2, z2, _, h1, h2⟩ := h
      exact ⟨c2, z2, h1, F.below h2⟩)
  have HT := Lib.hid (fun (w1 : World) (F : Fr 0 0 o o w w1) => show Calls Tryz.prog 96 #[.pointer (some ⟨pt, 0, none⟩), .int .i64 h, .int .i64 (y.cnt : Nat)] w1 fun e w' => e = .returned (.int .i64 (S.tot h)) ∧ ∃ n, w' = w1.drewN n from by
    rw [ht]; exact total_any h y.cnt w1 (E.spill.keep F (.inr (Nat.zero_le _))) (by omega) (by omega))
  have HS := Lib.hid (fun (w1 : World) (F : Fr 0 0 o o w w1) => show Calls Tryz.prog 97 #[.pointer (some ⟨pt, 0, none⟩), .int .i64 h] w1 fun e w' => e = .returned (.bool (S.st h)) ∧ w1 = w' from by
    rw [A.st]; exact sticky_any h w1 (E.spill.keep F (.inr (Nat.zero_le _))))
  have HO := Lib.hid ho
  have c0 := E.c0
  have c1 := E.c1
  have hpl := E.blk.lt
  clear E A hy ht hx ho hcn
  generalize S.tot h = tt at *
  generalize S.st h = ss at *
  go_enter Tryz.func39, Tryz.ntmps39
  go_wp2_with fail
  go_at_call 54
  refine (HHd.out _ (by repeat (first | exact Fr.refl HO.out | refine Fr.drew ?_ | refine Fr.alloc ?_ _))).mono ?_
  rintro e w1 ⟨col, z, rfl, F1⟩
  have c1' := c1
  have c1 := F1.cell0 c1
  have hp1 : p < w1.heap.size := Nat.lt_of_lt_of_le hpl F1.size
  have HF1 := Lib.hid F1
  clear F1
  have HF2 := Lib.hid (HF1.out.alloc (hdX y.kind y.cells y.raw y.cnt col z))
  have X1 := heap_alloc_new w1 (hdX y.kind y.cells y.raw y.cnt col z)
  go_wp2_with fail
  unfold hdX at X1 HF2
  generalize hw2 : w1.alloc (.cells #[.int .i64 (y.kind : Nat), .int .i64 (y.cells : Nat), .int .i64 (y.raw : Nat), .int .i64 (y.cnt : Nat), .int .i64 (col : Nat), .bool z, .bool false] 65 (0, 0)) = w2 at *
  have d1 := HF2.out.cell0 c1'
  have x3 : w2.cell? ⟨w1.heap.size, 3, none⟩ = some (.int .i64 (y.cnt : Nat)) := by simp [World.cell?, X1]
  clear X1 hw2
  go_quiet ((first
    | (go_at_call 96; exact Calls.quiet_of (HT.out _ (HF2.out.drewN _)))
    | (go_at_call 97; exact Calls.quiet_of_same ((HS.out _ (HF2.out.drewN _)).mono fun _ _ h => ⟨h.1, h.2.symm⟩))))
  go_wp2_with fail
  go_ret2
  exact ⟨rfl, (HF2.out.drewN nq).below0⟩
end Go.Proofs.YtlpklloagaccoaaGreat
namespace Go.Proofs.YtlpklloagaccoaaGreat
open Go.RowKit
set_option linter.unusedVariables false

theorem setA_plain {S : EngS} {h : Int} {x : Ob} {k q : Nat} {n : Int} (hq : q ≠ 3) (hv : (x.val k).1 ≠ 3) : setA S h x k q n = wrA S h x k q n := by
  unfold setA
  rw [if_neg hv, if_neg hq]
  split <;> rfl
set_option maxRecDepth 100000 in
theorem lsized {o : Own} {r p : Nat} {S : EngS} (h : Int) (x : Ob) (n : Int) (w : World) (hr : 1 ≤ r) (ho : Owned o w) (E : EngRep o w r p S) (hx : S.ob h = some x) (hk : 0 < x.cells) (hn : in64 n) (hv : (x.val 0).1 ≠ 3) :
    Calls Tryz.prog 150 #[.pointer (some ⟨p, 0, none⟩), .int .i64 h, .int .i64 n] w (EngDo o w r p (wrA S h x 0 1 n) (.tuple #[])) := by
  have HS := Lib.hid (show Calls Tryz.prog 68 #[.pointer (some ⟨p, 0, none⟩), .int .i64 h, .int .i64 0, valV 1 n] w (EngDo o w r p (wrA S h x 0 1 n) (.int .i64 0)) from by
    have := rset h 0 x 0 1 n w hr ho E hx rfl hk (by omega) hn (fun e => by omega) (fun _ e => absurd e hv)
    rw [setA_plain (by omega) hv] at this; exact this)
  clear E hx hn hv ho
  go_enter Tryz.func150, Tryz.ntmps150
  go_wp2_with fail
  go_at_call 68
  refine HS.out.mono ?_
  rintro e w1 ⟨rfl, hE⟩
  have HE := Lib.hid hE
  clear hE
  go_wp2_with fail
  go_end0
  exact ⟨rfl, HE.out⟩
set_option maxRecDepth 100000 in
theorem lsize {o : Own} {r p : Nat} {S : EngS} (h : Int) (x : Ob) (kd : Int) (w : World) (ho : Owned o w) (E : EngRep o w r p S) (hx : S.ob h = some x) (hk : 0 < x.cells) (hkd : kd = x.kind) :
    Calls Tryz.prog 93 #[.pointer (some ⟨p, 0, none⟩), .int .i64 kd, .int .i64 h] w fun e w' => e = .returned (.tuple #[.int .i64 (x.val 0).2, .int .i64 0]) ∧ Below w.heap.size w w' := by
  subst hkd
  have HK := Lib.hid (show Calls Tryz.prog 33 #[.pointer (some ⟨p, 0, none⟩), .int .i64 h] w fun e w' => e = .returned (.int .i64 (x.kind : Nat)) ∧ Fr 0 0 o o w w' from
    (rkind h w ho E).mono fun e w' hh => ⟨by rw [← kindA_of hx]; exact hh.1, (Fr.refl ho).below hh.2⟩)
  have HC := Lib.hid (fun (w1 : World) (F : Fr 0 0 o o w w1) => show Calls Tryz.prog 30 #[.pointer (some ⟨p, 0, none⟩), .int .i64 h, .int .i64 0] w1 fun e w' => e = .returned (.tuple #[valV (x.val 0).1 (x.val 0).2, .int .i64 0]) ∧ Fr 0 0 o o w w' from
    (rcell h 0 w1 F.fresh (E.keep F (.inr (Nat.zero_le _)))).mono fun e w' hh => ⟨by rw [← cellA_in hx rfl hk]; exact hh.1, F.below hh.2⟩)
  clear E hx hk ho
  go_enter Tryz.func93, Tryz.ntmps93
  go_wp2_with fail
  go_at_call 33
  refine HK.out.mono ?_
  rintro e w1 ⟨rfl, F1⟩
  have HF1 := Lib.hid F1
  clear F1
  go_wp2_with fail
  go_at_call 30
  refine (HC.out _ HF1.out).mono ?_
  rintro e w2 ⟨rfl, F2⟩
  have HF2 := Lib.hid F2
  clear F2
  go_wp2_with fail
  go_ret2
  exact ⟨rfl, by first | exact HF2.out.below0.alloc HF2.out.below0.size _ | exact HF2.out.below0⟩
set_option maxRecDepth 100000 in
theorem lstore_none {o : Own} {r p : Nat} {S : EngS} (h : Int) (x : Ob) (w : World) (ho : Owned o w) (E : EngRep o w r p S) (hx : S.ob h = some x) (hk : 1 < x.cells) (hv : (x.val 1).1 ≠ 3) :
    Calls Tryz.prog 151 #[.pointer (some ⟨p, 0, none⟩), .int .i64 h] w fun e w' => e = .returned (.tuple #[.int .i64 0, .int .i64 0]) ∧ Below w.heap.size w w' := by
  have HC := Lib.hid (show Calls Tryz.prog 30 #[.pointer (some ⟨p, 0, none⟩), .int .i64 h, .int .i64 1] w fun e w' => e = .returned (.tuple #[valV (x.val 1).1 (x.val 1).2, .int .i64 0]) ∧ Below w.heap.size w w' from
    (rcell h 1 w ho E).mono fun e w' hh => ⟨by rw [← cellA_in hx rfl hk]; exact hh.1, hh.2⟩)
  have hne : (((x.val 1).1 : Int) != 3) = true := by simp; omega
  clear E hx hk ho hv
  generalize (x.val 1).1 = k1 at *
  generalize (x.val 1).2 = n1 at *
  go_enter Tryz.func151, Tryz.ntmps151
  go_wp2_with fail
  go_at_call 30
  refine HC.out.mono ?_
  rintro e w1 ⟨rfl, hb1⟩
  have HB1 := Lib.hid hb1
  clear hb1
  go_wp2_with fail
  go_ret2
  exact ⟨rfl, by first | exact HB1.out.alloc HB1.out.size _ | exact HB1.out⟩
set_option maxRecDepth 100000 in
theorem lstore_some {o : Own} {r p : Nat} {S : EngS} (h : Int) (x y : Ob) (w : World) (ho : Owned o w) (E : EngRep o w r p S) (hx : S.ob h = some x) (hk : 1 < x.cells) (hv : (x.val 1).1 = 3) (hy : S.ob (x.val 1).2 = some y) :
    Calls Tryz.prog 151 #[.pointer (some ⟨p, 0, none⟩), .int .i64 h] w fun e w' => e = .returned (.tuple #[.int .i64 (x.val 1).2, .int .i64 (y.cells : Nat)]) ∧ Below w.heap.size w w' := by
  have HC := Lib.hid (show Calls Tryz.prog 30 #[.pointer (some ⟨p, 0, none⟩), .int .i64 h, .int .i64 1] w fun e w' => e = .returned (.tuple #[valV 3 (x.val 1).2, .int .i64 0]) ∧ Fr 0 0 o o w w' from
    (rcell h 1 w ho E).mono fun e w' hh => ⟨by have h1 := hh.1; rw [cellA_in hx (i := 1) (k := 1) rfl hk, hv] at h1; exact h1, (Fr.refl ho).below hh.2⟩)
  have HCs := Lib.hid (fun (w1 : World) (F : Fr 0 0 o o w w1) => show Calls Tryz.prog 32 #[.pointer (some ⟨p, 0, none⟩), .int .i64 (x.val 1).2] w1 fun e w' => e = .returned (.int .i64 (y.cells : Nat)) ∧ Below w1.heap.size w1 w' from
    (rcells (x.val 1).2 w1 F.fresh (E.keep F (.inr (Nat.zero_le _)))).mono fun e w' hh => ⟨by rw [← cellsA_of hy]; exact hh.1, hh.2⟩)
  clear E hx hk ho hv hy
  generalize (x.val 1).2 = n1 at *
  go_enter Tryz.func151, Tryz.ntmps151
  go_wp2_with fail
  go_at_call 30
  refine HC.out.mono ?_
  rintro e w1 ⟨rfl, F1⟩
  have HF1 := Lib.hid F1
  clear F1
  go_wp2_with fail
  obtain ⟨w2, hw2⟩ : ∃ w2, w2 = w1.alloc (.cells #[.int .i64 3, .int .i64 n1] 30) := ⟨_, rfl⟩
  rw [← hw2]
  have HF2 := Lib.hid (show Fr 0 0 o o w w2 by rw [hw2]; exact HF1.out.alloc _)
  have d1 : w2.cell? ⟨w1.heap.size, 1, none⟩ = some (.int .i64 n1) := by rw [hw2]; unfold World.cell?; rw [heap_alloc_new]; rfl
  have hl2 : w1.heap.size < w2.heap.size := by rw [hw2]; simp
  clear hw2
  go_region_with (go_at_call 32; refine (HCs.out _ (by repeat (first | exact HF2.out | refine Fr.drew ?_))).mono ?_; rintro e w3 ⟨rfl, hb3⟩; have d3 : w3.cell? ⟨w1.heap.size, 1, none⟩ = some (.int .i64 n1) := (hb3.cell (p := ⟨w1.heap.size, 1, none⟩) hl2).trans d1; have HF3 := Lib.hid (HF2.out.drew.below hb3); clear hb3)
  all_goals
    go_wp2_with fail
    go_ret2
    exact ⟨rfl, by first | exact HF3.out.below0 | exact HF3.out.drew.below0⟩
end Go.Proofs.YtlpklloagaccoaaGreat
namespace Go.Proofs.YtlpklloagaccoaaGreat
open Go.RowKit
set_option linter.unusedVariables false

theorem setA_ob (S : EngS) (h : Int) (x : Ob) (k q : Nat) (n : Int) : (setA S h x k q n).ob = updI S.ob h (some (setVal x k (q, n))) := by
  unfold setA
  split
  · rfl
  · split
    · split <;> rfl
    · split <;> rfl
theorem setA_weak (S : EngS) (h : Int) (x : Ob) (k q : Nat) (n : Int) : (setA S h x k q n).weak = S.weak := by
  unfold setA
  split
  · rfl
  · split
    · split <;> rfl
    · split <;> rfl
theorem setA_L (S : EngS) (h : Int) (x : Ob) (k q : Nat) (n : Int) : (setA S h x k q n).L = S.L := by
  unfold setA
  split
  · rfl
  · split
    · split <;> rfl
    · split <;> rfl
def withVals (x : Ob) (f : Nat → Nat × Int) (i : Nat) : Ob := { x with val := fun j => if j < i then f j else x.val j }
theorem withVals_zero (x : Ob) (f : Nat → Nat × Int) : withVals x f 0 = x := by unfold withVals; simp
theorem withVals_succ (x : Ob) (f : Nat → Nat × Int) (i : Nat) : setVal (withVals x f i) i ((f i).1, (f i).2) = withVals x f (i + 1) := by
  unfold setVal withVals updF
  congr 1
  funext j
  by_cases h : j = i
  · subst h; rw [if_pos rfl, if_pos (by omega)]
  · rw [if_neg h]
    by_cases h2 : j < i
    · rw [if_pos (by omega)]; exact if_pos h2
    · rw [if_neg (by omega)]; exact if_neg h2
/-- Cells are copied into an object. -/
def copyA (S : EngS) (t : Int) (xt : Ob) (f : Nat → Nat × Int) : Nat → EngS
  | 0 => S
  | i + 1 => setA (copyA S t xt f i) t (withVals xt f i) i (f i).1 (f i).2
theorem copyA_ob {S : EngS} {t : Int} {xt : Ob} {f : Nat → Nat × Int} (ht : S.ob t = some xt) : ∀ i, (copyA S t xt f i).ob = updI S.ob t (some (withVals xt f i))
  | 0 => by
    rw [withVals_zero, updI_same _ _ _ ht]; rfl
  | i + 1 => by
    show (setA (copyA S t xt f i) t _ i _ _).ob = _
    rw [setA_ob, copyA_ob ht i, updI_twice, withVals_succ]
theorem copyA_weak (S : EngS) (t : Int) (xt : Ob) (f : Nat → Nat × Int) : ∀ i, (copyA S t xt f i).weak = S.weak
  | 0 => rfl
  | i + 1 => by
    show (setA (copyA S t xt f i) t _ i _ _).weak = _
    rw [setA_weak, copyA_weak S t xt f i]
theorem copyA_L (S : EngS) (t : Int) (xt : Ob) (f : Nat → Nat × Int) : ∀ i, (copyA S t xt f i).L = S.L
  | 0 => rfl
  | i + 1 => by
    show (setA (copyA S t xt f i) t _ i _ _).L = _
    rw [setA_L, copyA_L S t xt f i]
/-- What stands in a list's, or a dict's, object: no store, or one of so many cells. -/
structure StoreAt (S : EngS) (h : Int) (x : Ob) (s : Int) (c : Nat) : Prop where
  ob : S.ob h = some x
  two : x.cells = 2
  none_ : c = 0 → (x.val 1).1 ≠ 3 ∧ s = 0
  some_ : 0 < c → (x.val 1) = (3, s) ∧ ∃ y, S.ob s = some y ∧ y.cells = c
theorem lstore {o : Own} {r p : Nat} {S : EngS} {h : Int} {x : Ob} {s : Int} {c : Nat} (w : World) (ho : Owned o w) (E : EngRep o w r p S) (A : StoreAt S h x s c) :
    Calls Tryz.prog 151 #[.pointer (some ⟨p, 0, none⟩), .int .i64 h] w fun e w' => e = .returned (.tuple #[.int .i64 s, .int .i64 (c : Nat)]) ∧ Below w.heap.size w w' := by
  rcases Nat.eq_zero_or_pos c with h0 | h0
  · obtain ⟨h1, rfl⟩ := A.none_ h0
    subst h0
    exact lstore_none h x w ho E A.ob (by rw [A.two]; omega) h1
  · obtain ⟨h1, y, h2, rfl⟩ := A.some_ h0
    have := lstore_some h x y w ho E A.ob (by rw [A.two]; omega) (by rw [h1]) (by rw [h1]; exact h2)
    rw [h1] at this; exact this
set_option maxRecDepth 100000 in
theorem room_has {o : Own} {r p : Nat} {S : EngS} {h : Int} {x : Ob} {s : Int} {c : Nat} (n least : Int) (w : World) (ho : Owned o w) (E : EngRep o w r p S) (A : StoreAt S h x s c) (hn : n ≤ c) :
    Calls Tryz.prog 91 #[.pointer (some ⟨p, 0, none⟩), .int .i64 h, .int .i64 n, .int .i64 least] w fun e w' => e = .returned (.tuple #[.int .i64 s, .int .i64 0]) ∧ Below w.heap.size w w' := by
  have HS := Lib.hid (lstore w ho E A)
  clear E A ho
  go_enter Tryz.func91, Tryz.ntmps91
  go_wp2_with fail
  go_at_call 151
  refine HS.out.mono ?_
  rintro e w1 ⟨rfl, hb1⟩
  have HB1 := Lib.hid hb1
  clear hb1
  go_wp2_with fail
  go_ret2
  exact ⟨rfl, HB1.out⟩
def moreN (c least : Nat) : Nat := if 0 < c then min (2 * c) 4000 else least
theorem rmake {o : Own} {r p : Nat} {S : EngS} (kind cells raw : Nat) (ki ci ri : Int) (e1 : ki = kind) (e2 : ci = cells) (e3 : ri = raw) (L' : Al) (a : Nat) (w : World) (ho : Owned o w) (E : EngRep o w r p S) (hok : S.L.ok = true) (hk : 1 ≤ kind ∧ kind < 8) (hc : cells ≤ 4000) (hr4 : raw ≤ 4000) (hT : tookL S.L (wordsN cells raw) = some (L', a)) :
    Calls Tryz.prog 66 #[.pointer (some ⟨p, 0, none⟩), .int .i64 ki, .int .i64 ci, .int .i64 ri] w fun e w' => EngDo o w r p (makeA S L' a kind cells raw) (.tuple #[.int .i64 (a : Nat), .int .i64 0]) e w' ∧ S.ob (a : Int) = none ∧ 64 ≤ a ∧ a < 262144 ∧ L'.ok = true ∧ L'.n = S.L.n := by
  subst e1 e2 e3
  obtain ⟨ps, pt, pz, pp, bw, bk, v, E⟩ := E
  have hn4 : S.L.n ≤ 4096 := by
    obtain ⟨K, E1, A1⟩ := E
    rw [A1.L]; exact E1.sp.nle
  have hwp := wordsN_pos cells raw
  refine (xmake_yes kind cells raw L' a w ho E hok (by omega) hc hr4 hT (by omega)).mono ?_
  intro e w' hh
  obtain ⟨h1, h2, h3, h4, h5, h6, o', F, E'⟩ := hh.1 L' a hT
  exact ⟨⟨h1, o', F, E'.rep⟩, h2, h3, by omega, h5, h6⟩
set_option maxRecDepth 100000 in
set_option maxHeartbeats 1000000 in
theorem room_full {o : Own} {r p : Nat} {S : EngS} {h : Int} {x : Ob} {s : Int} {c : Nat} (n : Int) (least : Nat) (w : World) (ho : Owned o w) (E : EngRep o w r p S) (A : StoreAt S h x s c) (hn : (c : Int) < n) (hc4 : c ≤ 4000) (hl4 : least ≤ 4000) (hok : S.L.ok = true) (hT : tookL S.L (wordsN (moreN c least) 0) = none) :
    Calls Tryz.prog 91 #[.pointer (some ⟨p, 0, none⟩), .int .i64 h, .int .i64 n, .int .i64 (least : Nat)] w fun e w' => EngDo o w r p S (.tuple #[.int .i64 0, .int .i64 2]) e w' := by
  have HS := Lib.hid ((lstore w ho E A).mono fun e w' (hh : _ ∧ Below w.heap.size w w') => (⟨hh.1, (Fr.refl (lo := 0) (hi := 0) ho).below hh.2⟩ : e = .returned (.tuple #[.int .i64 s, .int .i64 (c : Nat)]) ∧ Fr 0 0 o o w w'))
  have HM := Lib.hid (fun (w1 : World) (mi : Int) (hm : mi = (moreN c least : Nat)) (F : Fr 0 0 o o w w1) => show Calls Tryz.prog 66 #[.pointer (some ⟨p, 0, none⟩), .int .i64 4, .int .i64 mi, .int .i64 0] w1 fun e w' => e = .returned (.tuple #[.int .i64 0, .int .i64 2]) ∧ ∃ o', Fr r (r + 29) o o' w w' ∧ EngRep o' w' r p S from by
    subst hm
    obtain ⟨ps, pt, pz, pp, bw, bk, v, E⟩ := E.keep F (.inr (Nat.zero_le _))
    exact (xmake_no 4 (moreN c least) 0 w1 F.fresh E hok (by omega) (by unfold moreN; split <;> omega) (by omega) hT).mono fun e w' hh => by
      obtain ⟨h1, o', F2, E'⟩ := hh.2 hT
      exact ⟨h1, o', (F.none r (r + 29)).trans F2, E'.rep⟩)
  have hm1 : 0 < c → moreN c least = min (2 * c) 4000 := fun h => by unfold moreN; rw [if_pos h]
  have HM1 := Lib.hid hm1
  have HO := Lib.hid ho
  have cc : (c : Int) ≤ 4000 := by omega
  clear E A hT ho hm1 hc4
  rcases Nat.eq_zero_or_pos c with h0 | h0
  · subst h0
    go_enter Tryz.func91, Tryz.ntmps91
    go_wp2_with fail
    go_at_call 151
    refine HS.out.mono ?_
    rintro e w1 ⟨rfl, F1⟩
    have HF1 := Lib.hid F1
    clear F1
    go_wp2_with fail
    go_at_call 66
    refine (HM.out _ _ (by unfold moreN; rw [if_neg (by omega)]) HF1.out).mono ?_
    rintro e w2 ⟨rfl, hE⟩
    have HE := Lib.hid hE
    clear hE
    go_wp2_with fail
    go_ret2
    exact ⟨rfl, HE.out⟩
  · have hcp : (0 : Int) < (c : Int) := by omega
    have hcp2 : ¬ (c : Int) ≤ 0 := by omega
    go_enter Tryz.func91, Tryz.ntmps91
    go_wp2_with fail
    go_at_call 151
    refine HS.out.mono ?_
    rintro e w1 ⟨rfl, F1⟩
    have HF1 := Lib.hid F1
    clear F1
    go_wp2_with fail
    all_goals
      go_at_call 66
      refine (HM.out _ _ (by have h1 := HM1.out h0; omega) HF1.out).mono ?_
      rintro e w2 ⟨rfl, hE⟩
      have HE := Lib.hid hE
      clear hE
      go_wp2_with fail
      go_ret2
      exact ⟨rfl, HE.out⟩
/-- Between two rounds of the copying. -/
def RoomRel (o : Own) (w : World) (r p : Nat) (S1 : EngS) (t : Int) (xt : Ob) (f : Nat → Nat × Int) (i : Nat) (wr : World) : Prop := ∃ o', Fr r (r + 29) o o' w wr ∧ EngRep o' wr r p (copyA S1 t xt f i)
set_option maxRecDepth 100000 in
set_option maxHeartbeats 2000000 in
theorem room_new {o : Own} {r p : Nat} {S : EngS} {h : Int} {x y : Ob} {s : Int} {c : Nat} (n : Int) (least : Nat) (L' : Al) (t : Nat) (w : World) (hr : 1 ≤ r) (ho : Owned o w) (E : EngRep o w r p S) (A : StoreAt S h x s c) (hn : (c : Int) < n) (hc4 : c ≤ 4000) (hl4 : least ≤ 4000) (hcm : c ≤ moreN c least) (hok : S.L.ok = true) (hT : tookL S.L (wordsN (moreN c least) 0) = some (L', t))
    (hy : 0 < c → S.ob s = some y ∧ y.cells = c) (hvals : ∀ i, i < c → (y.val i).1 ≤ 3 ∧ in64 (y.val i).2 ∧ ((y.val i).1 = 3 → ∃ z, S.ob (y.val i).2 = some z)) :
    Calls Tryz.prog 91 #[.pointer (some ⟨p, 0, none⟩), .int .i64 h, .int .i64 n, .int .i64 (least : Nat)] w fun e w' => EngDo o w r p (copyA (makeA S L' t 4 (moreN c least) 0) (t : Int) (newOb 4 (moreN c least) 0) y.val c) (.tuple #[.int .i64 (t : Nat), .int .i64 0]) e w' ∧ S.ob (t : Int) = none ∧ 64 ≤ t ∧ t < 262144 ∧ L'.ok = true ∧ L'.n = S.L.n := by
  have HS := Lib.hid ((lstore w ho E A).mono fun e w' (hh : _ ∧ Below w.heap.size w w') => (⟨hh.1, (Fr.refl (lo := 0) (hi := 0) ho).below hh.2⟩ : e = .returned (.tuple #[.int .i64 s, .int .i64 (c : Nat)]) ∧ Fr 0 0 o o w w'))
  have hm4 : moreN c least ≤ 4000 := by unfold moreN; split <;> omega
  have HM := Lib.hid (fun (w1 : World) (mi : Int) (hm : mi = (moreN c least : Nat)) (F : Fr 0 0 o o w w1) => show Calls Tryz.prog 66 #[.pointer (some ⟨p, 0, none⟩), .int .i64 4, .int .i64 mi, .int .i64 0] w1 fun e w' => e = .returned (.tuple #[.int .i64 (t : Nat), .int .i64 0]) ∧ (S.ob (t : Int) = none ∧ 64 ≤ t ∧ t < 262144 ∧ L'.ok = true ∧ L'.n = S.L.n) ∧ ∃ o', Fr r (r + 29) o o' w w' ∧ EngRep o' w' r p (makeA S L' t 4 (moreN c least) 0) from
    (rmake 4 (moreN c least) 0 4 mi 0 rfl hm rfl L' t w1 F.fresh (E.keep F (.inr (Nat.zero_le _))) hok (by omega) hm4 (by omega) hT).mono fun e w' hh => by
      obtain ⟨⟨h1, o', F2, E'⟩, h2⟩ := hh
      exact ⟨h1, h2, o', (F.none r (r + 29)).trans F2, E'⟩)
  have HRD := Lib.hid (fun (o1 : Own) (w1 : World) (i : Nat) (hi : i < c) (hnew : S.ob (t : Int) = none) (ho1 : Owned o1 w1) (E1 : EngRep o1 w1 r p (copyA (makeA S L' t 4 (moreN c least) 0) (t : Int) (newOb 4 (moreN c least) 0) y.val i)) => show Calls Tryz.prog 30 #[.pointer (some ⟨p, 0, none⟩), .int .i64 s, .int .i64 (i : Nat)] w1 fun e w' => e = .returned (.tuple #[valV (y.val i).1 (y.val i).2, .int .i64 0]) ∧ Below w1.heap.size w1 w' from by
    have hys := (hy (by omega)).1
    have hst : s ≠ (t : Int) := fun e => by rw [e, hnew] at hys; cases hys
    have hob : (copyA (makeA S L' t 4 (moreN c least) 0) (t : Int) (newOb 4 (moreN c least) 0) y.val i).ob s = some y := by
      rw [copyA_ob (show (makeA S L' t 4 (moreN c least) 0).ob (t : Int) = _ from if_pos rfl)]
      unfold updI
      rw [if_neg hst]
      show updI S.ob _ _ s = _
      unfold updI
      rw [if_neg hst]; exact hys
    exact (rcell s (i : Int) w1 ho1 E1).mono fun e w' hh => ⟨by rw [← cellA_in hob rfl (by rw [(hy (by omega)).2]; exact hi)]; exact hh.1, hh.2⟩)
  have HST := Lib.hid (fun (o1 : Own) (w1 : World) (i : Nat) (hi : i < c) (hnew : S.ob (t : Int) = none) (ho1 : Owned o1 w1) (E1 : EngRep o1 w1 r p (copyA (makeA S L' t 4 (moreN c least) 0) (t : Int) (newOb 4 (moreN c least) 0) y.val i)) => show Calls Tryz.prog 68 #[.pointer (some ⟨p, 0, none⟩), .int .i64 (t : Nat), .int .i64 (i : Nat), valV (y.val i).1 (y.val i).2] w1 (EngDo o1 w1 r p (copyA (makeA S L' t 4 (moreN c least) 0) (t : Int) (newOb 4 (moreN c least) 0) y.val (i + 1)) (.int .i64 0)) from by
    have hob := copyA_ob (S := makeA S L' t 4 (moreN c least) 0) (t := (t : Int)) (xt := newOb 4 (moreN c least) 0) (f := y.val) (if_pos rfl) i
    obtain ⟨h1, h2, h3⟩ := hvals i hi
    refine rset (t : Int) (i : Int) (withVals (newOb 4 (moreN c least) 0) y.val i) i (y.val i).1 (y.val i).2 w1 hr ho1 E1 (by rw [hob]; exact if_pos rfl) rfl (by show i < moreN c least; omega) h1 h2 (fun e => ?_) (fun _ e => ?_)
    · obtain ⟨z, hz⟩ := h3 e
      have hzt : (y.val i).2 ≠ (t : Int) := fun e => by rw [e, hnew] at hz; cases hz
      refine ⟨z, ?_⟩
      rw [hob]
      unfold updI
      rw [if_neg hzt]
      show updI S.ob _ _ _ = _
      unfold updI
      rw [if_neg hzt]; exact hz
    · exfalso
      have e2 : ((withVals (newOb 4 (moreN c least) 0) y.val i).val i).1 = 0 := by
        show (if i < i then y.val i else (0, 0)).1 = 0
        rw [if_neg (by omega)]
      omega)
  have hm1 : 0 < c → moreN c least = min (2 * c) 4000 := fun h => by unfold moreN; rw [if_pos h]
  have HM1 := Lib.hid hm1
  have HO := Lib.hid ho
  have cc : (c : Int) ≤ 4000 := by omega
  clear E A hT ho hm1 hc4 hy hvals hm4 hcm
  rcases Nat.eq_zero_or_pos c with h0 | h0
  · subst h0
    go_enter Tryz.func91, Tryz.ntmps91
    go_wp2_with fail
    go_at_call 151
    refine HS.out.mono ?_
    rintro e w1 ⟨rfl, F1⟩
    have HF1 := Lib.hid F1
    clear F1
    go_wp2_with fail
    go_at_call 66
    refine (HM.out _ _ (by unfold moreN; rw [if_neg (by omega)]) HF1.out).mono ?_
    rintro e w2 ⟨rfl, hf, hE⟩
    have HE := Lib.hid hE
    have HFF := Lib.hid hf
    clear hE hf
    go_wp2_with fail
    refine wp_loop_rounds 1 ?_
    rw [rounds_succ]
    go_wp2_with fail
    go_ret2
    exact ⟨⟨rfl, HE.out⟩, HFF.out⟩
  · have hcp : (0 : Int) < (c : Int) := by omega
    have hcp2 : ¬ (c : Int) ≤ 0 := by omega
    go_enter Tryz.func91, Tryz.ntmps91
    go_wp2_with fail
    go_at_call 151
    refine HS.out.mono ?_
    rintro e w1 ⟨rfl, F1⟩
    have HF1 := Lib.hid F1
    clear F1
    go_wp2_with fail
    all_goals
      go_at_call 66
      refine (HM.out _ _ (by have h1 := HM1.out h0; omega) HF1.out).mono ?_
      rintro e w2 ⟨rfl, hf, hE⟩
      have HE := Lib.hid hE
      have HFF := Lib.hid hf
      clear hE hf
      go_wp2_with fail
      have hrel0 := Lib.hid (show RoomRel o w r p (makeA S L' t 4 (moreN c least) 0) (t : Int) (newOb 4 (moreN c least) 0) y.val 0 w2 from HE.out)
      go_loopw [44] (fun iv wr => ∃ i : Nat, i ≤ c ∧ iv = .int .i64 i ∧ RoomRel o w r p (makeA S L' t 4 (moreN c least) 0) (t : Int) (newOb 4 (moreN c least) 0) y.val i wr) (fun iv _ => c - (intOf iv).toNat)
      case atStart => exact ⟨0, by omega, rfl, hrel0.out⟩
      case round =>
        obtain ⟨i, hi, rfl, oi, Fi, Ei⟩ := hrel
        by_cases hic : i < c
        · have hic' : (i : Int) < (c : Int) := by omega
          have HC := Lib.hid (HRD.out oi wr i hic HFF.out.1 Fi.fresh Ei)
          have HSi := Lib.hid (fun (w5 : World) (F : Fr 0 0 oi oi wr w5) => HST.out oi w5 i hic HFF.out.1 F.fresh (Ei.keep F (.inr (Nat.zero_le _))))
          have HFi := Lib.hid Fi
          clear Fi Ei
          go_wp2_with fail
          go_at_call 30
          refine HC.out.mono ?_
          rintro e w4 ⟨rfl, hb4⟩
          have HF4 := Lib.hid ((Fr.refl (lo := 0) (hi := 0) HFi.out.fresh).below hb4)
          clear hb4
          go_wp2_with fail
          go_at_call 68
          refine (HSi.out _ (by repeat (first | exact HF4.out | refine Fr.drew ?_ | refine Fr.alloc ?_ _))).mono ?_
          rintro e w5 ⟨rfl, o5, F5, E5⟩
          have HE5 := Lib.hid E5
          have HF5 := Lib.hid (HFi.out.trans (((HF4.out.alloc _).none r (r + 29)).trans F5))
          clear F5 E5
          go_wp2_with fail
          exact ⟨⟨i + 1, by omega, by go_num, o5, HF5.out, HE5.out⟩, by simp [intOf]; omega⟩
        · have hic' : ¬ (i : Int) < (c : Int) := by omega
          obtain rfl : i = c := by omega
          go_wp2_with fail
          go_ret2
          exact ⟨⟨rfl, oi, Fi, Ei⟩, HFF.out⟩
end Go.Proofs.YtlpklloagaccoaaGreat
