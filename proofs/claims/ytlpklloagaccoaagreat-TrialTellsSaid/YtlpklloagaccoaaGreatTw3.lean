/- The objects of a span, which of them are held, and what is outside (trial.walk.objects, .waste, .outside). Conditions: the engine is as one that was made; handles. The functions that trial.Run hands on: who is a seed, who is told, who is freed. Conditions: the engine is as one that was made; handles. -/
import Derived.Test.YtlpklloagaccoaaGreatTw2
import Derived.Test.YtlpklloagaccoaaGreatZeros
import Derived.Test.YtlpklloagaccoaaGreatRun4
import Derived.Test.YtlpklloagaccoaaGreatRoom
import Derived.Outline
import Derived.Test.YtlpklloagaccoaaGreatTells
import Derived.Test.YtlpklloagaccoaaGreatFree
namespace Go.Proofs.YtlpklloagaccoaaGreat
open Go.RowKit
set_option linter.unusedVariables false

theorem KeysOf.setL {V : Int → Bool} {n : Int → Int} {xs : List Int} (h : KeysOf (inM V n) xs) : SetL V xs := ⟨h.sorted, fun k => by
  rw [h.mem k]
  unfold inM
  by_cases e : V k = true
  · rw [if_pos e]; exact ⟨fun _ => e, fun _ => ⟨_, rfl⟩⟩
  · rw [if_neg e]; exact ⟨fun ⟨v, hv⟩ => (by cases hv), fun z => absurd z e⟩⟩
set_option maxRecDepth 100000 in
set_option maxHeartbeats 1000000 in
theorem tobjects {o : Own} {s p : Nat} {V H : Int → Bool} {n : Int → Int} {ws : List Int} {bi bh : Nat} {vw : Value} (w : World) (ho : Owned o w) (X : TwX o w s p (inM V n) H ws bi bh vw) :
    Calls Tryz.prog 143 #[.pointer (some ⟨s, 0, none⟩)] w (SetPost o w V) := by
  have c1 := X.blk.cell 1
  simp only [List.getElem?_toArray, List.getElem?_cons_zero, List.getElem?_cons_succ] at c1
  have hpl := X.blk.lt
  have HS := Lib.hid (sortedI_call ho X.ins.2)
  clear X ho
  go_enter Tryz.func143, Tryz.ntmps143
  go_wp2_with fail
  go_at_call 186
  refine (keysI_call bi w).mono ?_
  rintro e w1 ⟨rfl, rfl⟩
  go_wp2_with fail
  go_at_call 126
  refine HS.out.mono ?_
  rintro e w2 ⟨v, xs, rfl, hK, F2, R2⟩
  have H2 := Lib.hid (And.intro hK.setL (And.intro F2 R2))
  clear hK F2 R2
  go_wp2_with fail
  go_ret
  exact ⟨v, xs, rfl, H2.out.1, H2.out.2.1, H2.out.2.2⟩
set_option maxRecDepth 100000 in
theorem waste1_call {o : Own} {s p : Nat} {fi : Int → Option Value} {H : Int → Bool} {ws : List Int} {bi bh B : Nat} {vw : Value} (h : Int) (w : World) (ho : Owned o w) (X : TwX o w s p fi H ws bi bh vw) (hB : Blk o w 0 B (.cells #[.pointer (some ⟨s, 0, none⟩)] 147 (0, 0))) :
    Calls Tryz.prog 187 #[.int .i64 h, .pointer (some ⟨B, 0, none⟩)] w fun e w' => e = .returned (.bool (H h)) ∧ w = w' := by
  have c2 := X.blk.cell 2
  simp only [List.getElem?_toArray, List.getElem?_cons_zero, List.getElem?_cons_succ] at c2
  have hpl := X.blk.lt
  have cb := hB.cell 0
  simp only [List.getElem?_toArray, List.getElem?_cons_zero] at cb
  have hbl := hB.lt
  have hlk : (Instr.lookup 100 (.map (some bh)) (.int .i64 h) false).run Tryz.prog w = .ok (.bool (H h)) w := by
    rw [MapIs.lookup X.held.2 Tryz.underlying100 Tryz.underlying3 zero_boolL false h]; simp [setMap_get]
  clear X hB ho
  go_enter Tryz.func187, Tryz.ntmps187
  go_wp2_with fail
  go_ret
  exact ⟨rfl, rfl⟩
/-- A span, and a variable that holds it. -/
def TwBx (o : Own) (w : World) (s p : Nat) (fi : Int → Option Value) (H : Int → Bool) (ws : List Int) (bi bh B : Nat) (vw : Value) : Prop := TwX o w s p fi H ws bi bh vw ∧ Blk o w 0 B (.cells #[.pointer (some ⟨s, 0, none⟩)] 147 (0, 0))
theorem TwBx.keep {lo hi : Nat} {o o' : Own} {w w' : World} {s p : Nat} {fi : Int → Option Value} {H : Int → Bool} {ws : List Int} {bi bh B : Nat} {vw : Value} (h : TwBx o w s p fi H ws bi bh B vw) (k : Fr lo hi o o' w w') (hr : 64 ≤ lo ∨ (hi ≤ 60 ∧ (0 < lo ∨ hi = 0))) : TwBx o' w' s p fi H ws bi bh B vw :=
  ⟨h.1.keep k (by omega), h.2.keep k (by omega)⟩
theorem waste_pred {s p rs : Nat} {fi : Int → Option Value} {H : Int → Bool} {ws : List Int} {bi bh B : Nat} {vw : Value} (xs : List Int) (hrs : 64 ≤ rs) : PredR 187 #[.pointer (some ⟨B, 0, none⟩)] H xs 0 0 rs (fun _ o w => Owned o w ∧ TwBx o w s p fi H ws bi bh B vw) where
  call := fun i hi o w ho hB => (waste1_call _ w ho hB.2.1 hB.2.2).mono fun e w' hh => ⟨hh.1, o, by rw [← hh.2]; exact Fr.refl ho, by rw [← hh.2]; exact hB⟩
  keep := fun i o o' w w' hB k => ⟨k.fresh, hB.2.keep k (.inl (by omega))⟩
  drew := fun i o w hB => ⟨hB.1, hB.2.keep (lo := 0) (hi := 0) ((Fr.refl hB.1).drew) (.inr (by omega))⟩
  enters := fun args w => by kernel_rfl
  apart := .inr (by omega)
/-- Behind a call that gives some of a span's objects. -/
def WstPost (o : Own) (w : World) (r : Nat) (V : Int → Bool) (q : Int → Bool) (e : Ending) (w' : World) : Prop := ∃ v os o', e = .returned v ∧ SetL V os ∧ Fr r (r + 1) o o' w w' ∧ LRow o' w' r v (os.filter q)
set_option maxRecDepth 100000 in
set_option maxHeartbeats 1000000 in
theorem twaste {o : Own} {s p : Nat} {V H : Int → Bool} {n : Int → Int} {ws : List Int} {bi bh : Nat} {vw : Value} (r : Nat) (hr : 64 ≤ r) (w : World) (ho : Owned o w) (X : TwX o w s p (inM V n) H ws bi bh vw) (hV : ∀ k, V k = true → 0 ≤ k ∧ k < KB) :
    Calls Tryz.prog 147 #[.pointer (some ⟨s, 0, none⟩)] w (WstPost o w r V fun h => !H h) := by
  have hB := Blk.new (o := o) (w := w) (.cells #[.pointer (some ⟨s, 0, none⟩)] 147) 0
  have F1 : Fr 0 0 o o w (w.alloc (.cells #[.pointer (some ⟨s, 0, none⟩)] 147)) := (Fr.refl ho).alloc _
  have hB1 : Blk o (w.alloc (.cells #[.pointer (some ⟨s, 0, none⟩)] 147)) 0 w.heap.size (.cells #[.pointer (some ⟨s, 0, none⟩)] 147 (0, 0)) := ⟨ho _ (Nat.le_refl _), hB.2⟩
  have cb := hB1.cell 0
  simp only [List.getElem?_toArray, List.getElem?_cons_zero] at cb
  have hbl := hB1.lt
  have HX1 := Lib.hid (show TwBx o (w.alloc (.cells #[.pointer (some ⟨s, 0, none⟩)] 147)) s p (inM V n) H ws bi bh w.heap.size vw from ⟨X.keep F1 (.inr (by omega)), hB1⟩)
  have HF1 := Lib.hid F1
  have HV := Lib.hid hV
  have HR := Lib.hid hr
  clear hB hB1 F1 X ho hV hr
  go_enter Tryz.func147, Tryz.ntmps147
  go_wp2_with fail
  generalize w.alloc (.cells #[.pointer (some ⟨s, 0, none⟩)] 147) = w1 at *
  generalize w.heap.size = B at *
  have HOb := Lib.hid (tobjects w1 HF1.out.fresh HX1.out.1)
  go_at_call 143
  refine HOb.out.mono ?_
  rintro e w2 ⟨v2, os, rfl, hos, F2, R2⟩
  obtain ⟨o3, G2, L2⟩ := R2.own F2 r
  have HX2 := Lib.hid (HX1.out.keep G2 (.inl (by have := HR.out; omega)))
  have HG2 := Lib.hid ((HF1.out.none r (r + 1)).trans G2)
  have HL2 := Lib.hid L2
  have HOs := Lib.hid hos
  clear F2 R2 G2 L2 hos cb hbl
  have HD := Lib.hid (delete_func (waste_pred os HR.out) v2 r (r + 1) (fun o o' w w' k => k.none r (r + 1)) ⟨Nat.le_refl _, Nat.lt_succ_self _⟩ HG2.out.fresh HL2.out ⟨HG2.out.fresh, HX2.out⟩ (HOs.out.len_le HV.out))
  obtain ⟨A2, c2, hv2, _⟩ := HL2.out.rd
  subst hv2
  go_wp2_with fail
  go_at_call 131
  refine HD.out.mono ?_
  rintro e w3 ⟨o4, v3, rfl, F3, L3, _⟩
  have HF3 := Lib.hid (HG2.out.trans F3)
  have HL3 := Lib.hid L3
  clear F3 L3
  go_wp2_with fail
  go_ret
  exact ⟨v3, os, o4, rfl, HOs.out, HF3.out, HL3.out⟩
set_option maxRecDepth 100000 in
set_option maxHeartbeats 1000000 in
theorem toutside {o : Own} {s p : Nat} {S : EngS} {V H : Int → Bool} {n : Int → Int} {ws : List Int} {bi bh : Nat} {vw : Value} (h : Int) (x : Ob) (w : World) (ho : Owned o w) (E : EngRep o w 1 p S) (X : TwX o w s p (inM V n) H ws bi bh vw) (hx : S.ob h = some x) (hV : V h = true) :
    Calls Tryz.prog 145 #[.pointer (some ⟨s, 0, none⟩), .int .i64 h] w fun e w' => e = .returned (.bool (S.st h || decide (n h < S.tot h))) ∧ Fr 0 0 o o w w' := by
  have c0 := X.blk.cell 0
  have c1 := X.blk.cell 1
  simp only [List.getElem?_toArray, List.getElem?_cons_zero, List.getElem?_cons_succ] at c0 c1
  have hpl := X.blk.lt
  have HC := Lib.hid (rcount h x w ho E hx)
  have HO := Lib.hid ho
  have HLk := Lib.hid (fun (w1 : World) (F : Fr 0 0 o o w w1) => show (Instr.lookup 148 (.map (some bi)) (.int .i64 h) false).run Tryz.prog w1 = .ok (.int .i64 (n h)) w1 from by
    rw [MapIs.lookup (X.ins.keep F (.inr (by omega))).2 Tryz.underlying148 Tryz.underlying3 (z := .int .i64 0) (fun w => by kernel_rfl) false h]
    simp only [Bool.false_eq_true, if_false]
    rw [(inM_get V n h).1, if_pos hV])
  clear E X hx hV ho
  generalize S.tot h = t at *
  generalize n h = m at *
  cases hs : S.st h with
  | true =>
    rw [hs] at HC
    clear hs
    go_enter Tryz.func145, Tryz.ntmps145
    go_wp2_with fail
    go_at_call 39
    refine HC.out.mono ?_
    rintro e w1 ⟨rfl, hb⟩
    have HF := Lib.hid ((Fr.refl (lo := 0) (hi := 0) HO.out).below hb)
    clear hb
    go_wp2_with fail
    go_ret
    exact ⟨rfl, HF.out⟩
  | false =>
    rw [hs] at HC
    clear hs
    go_enter Tryz.func145, Tryz.ntmps145
    go_wp2_with fail
    go_at_call 39
    refine HC.out.mono ?_
    rintro e w1 ⟨rfl, hb⟩
    have HF := Lib.hid ((Fr.refl (lo := 0) (hi := 0) HO.out).below hb)
    have hlk := HLk.out w1 HF.out
    have c01 := HF.out.cell0 c0
    have c11 := HF.out.cell0 c1
    have hpl1 := Nat.lt_of_lt_of_le hpl HF.out.size
    clear hb
    go_wp2_with fail
    go_ret
    exact ⟨by simp, HF.out⟩
end Go.Proofs.YtlpklloagaccoaaGreat
namespace Go.Proofs.YtlpklloagaccoaaGreat
open Go.RowKit
set_option linter.unusedVariables false

set_option maxRecDepth 100000 in
set_option maxHeartbeats 1000000 in
theorem run1_call {o : Own} {s p : Nat} {S : EngS} {V H kept : Int → Bool} {n : Int → Int} {ws : List Int} {bi bh B C bk : Nat} {vw : Value} (h : Int) (x : Ob) (w : World) (ho : Owned o w) (E : EngRep o w 1 p S) (X : TwBx o w s p (inM V n) H ws bi bh B vw) (hC : Blk o w 0 C (.cells #[.map (some bk)] 100 (0, 0))) (hk : MapBlk o w 51 bk (setMap kept)) (hx : S.ob h = some x) (hV : V h = true) :
    Calls Tryz.prog 144 #[.int .i64 h, .pointer (some ⟨C, 0, none⟩), .pointer (some ⟨B, 0, none⟩)] w fun e w' => e = .returned (.bool (!(kept h || (S.st h || decide (n h < S.tot h))))) ∧ Fr 0 0 o o w w' := by
  have cb := X.2.cell 0
  have cc := hC.cell 0
  simp only [List.getElem?_toArray, List.getElem?_cons_zero] at cb cc
  have hbl := X.2.lt
  have hcl := hC.lt
  have hlk : (Instr.lookup 100 (.map (some bk)) (.int .i64 h) false).run Tryz.prog w = .ok (.bool (kept h)) w := by
    rw [MapIs.lookup hk.2 Tryz.underlying100 Tryz.underlying3 zero_boolL false h]; simp [setMap_get]
  have HT := Lib.hid (toutside h x w ho E X.1 hx hV)
  have HO := Lib.hid ho
  clear E X hC hk hx hV ho
  generalize (S.st h || decide (n h < S.tot h)) = b at *
  cases hkp : kept h with
  | true =>
    rw [hkp] at hlk
    clear hkp
    go_enter Tryz.func144, Tryz.ntmps144
    go_wp2_with fail
    go_ret
    exact ⟨by simp, Fr.refl HO.out⟩
  | false =>
    rw [hkp] at hlk
    clear hkp
    go_enter Tryz.func144, Tryz.ntmps144
    go_wp2_with fail
    go_at_call 145
    refine HT.out.mono ?_
    rintro e w1 ⟨rfl, F1⟩
    have HF := Lib.hid F1
    clear F1
    go_wp2_with fail
    go_ret
    exact ⟨by simp, HF.out⟩
/-- What the first one needs. -/
def R1At (s p : Nat) (S : EngS) (V H kept : Int → Bool) (n : Int → Int) (ws : List Int) (bi bh B C bk : Nat) (vw : Value) (o : Own) (w : World) : Prop :=
  Owned o w ∧ EngRep o w 1 p S ∧ TwBx o w s p (inM V n) H ws bi bh B vw ∧ Blk o w 0 C (.cells #[.map (some bk)] 100 (0, 0)) ∧ MapBlk o w 51 bk (setMap kept)
theorem R1At.keep {lo hi : Nat} {s p : Nat} {S : EngS} {V H kept : Int → Bool} {n : Int → Int} {ws : List Int} {bi bh B C bk : Nat} {vw : Value} {o o' : Own} {w w' : World} (h : R1At s p S V H kept n ws bi bh B C bk vw o w) (k : Fr lo hi o o' w w') (hr : 64 ≤ lo ∨ hi = 0) : R1At s p S V H kept n ws bi bh B C bk vw o' w' :=
  ⟨k.fresh, h.2.1.keep k (by omega), h.2.2.1.keep k (by omega), h.2.2.2.1.keep k (by omega), h.2.2.2.2.keep k (by omega)⟩
theorem getD_mem {xs : List Int} {i : Nat} (hi : i < xs.length) : xs.getD i 0 ∈ xs := by
  rw [show xs.getD i 0 = xs[i] from by simp [List.getD, hi]]; exact List.getElem_mem hi
theorem run1_pred {s p rs : Nat} {S : EngS} {V H kept : Int → Bool} {n : Int → Int} {ws : List Int} {bi bh B C bk : Nat} {vw : Value} (xs : List Int) (hrs : 64 ≤ rs) (hx : ∀ k ∈ xs, V k = true ∧ ∃ x, S.ob k = some x) :
    PredR 144 #[.pointer (some ⟨C, 0, none⟩), .pointer (some ⟨B, 0, none⟩)] (fun h => !(kept h || (S.st h || decide (n h < S.tot h)))) xs 0 0 rs (fun _ o w => R1At s p S V H kept n ws bi bh B C bk vw o w) where
  call := fun i hi o w ho hR => by
    obtain ⟨hv, x, hob⟩ := hx _ (getD_mem hi)
    exact (run1_call _ x w ho hR.2.1 hR.2.2.1 hR.2.2.2.1 hR.2.2.2.2 hob hv).mono fun e w' hh => ⟨hh.1, o, hh.2, hR.keep hh.2 (.inr rfl)⟩
  keep := fun i o o' w w' hR k => hR.keep k (.inl (by omega))
  drew := fun i o w hR => hR.keep (lo := 0) (hi := 0) ((Fr.refl hR.1).drew) (.inr rfl)
  enters := fun args w => by kernel_rfl
  apart := .inr (by omega)
/-! ### who is told -/
theorem tellsA_wat (k : Int) : ∀ (l : List Int) (S : EngS), (tellsA S l).wat k = if k ∈ l then false else S.wat k
  | [], S => by rw [if_neg (by simp)]; rfl
  | a :: l, S => by
    show (tellsA (tellA S a) l).wat k = _
    rw [tellsA_wat k l (tellA S a)]
    by_cases h1 : k ∈ l
    · rw [if_pos h1, if_pos (by simp [h1])]
    · rw [if_neg h1]
      show updS S.wat a false k = _
      unfold updS
      by_cases h2 : k = a
      · rw [if_pos h2, if_pos (by simp [h2])]
      · rw [if_neg h2, if_neg (by simp [h1, h2])]
theorem tellsA_snoc (S : EngS) (l : List Int) (a : Int) : tellsA S (l ++ [a]) = tellA (tellsA S l) a := by
  unfold tellsA; rw [List.foldl_append]; rfl
theorem freesA_snoc (S : EngS) (l : List Int) (a : Int) : freesA S (l ++ [a]) = freeA (freesA S l) a := by
  unfold freesA; rw [List.foldl_append]; rfl
theorem take_notin {xs : List Int} (nd : xs.Nodup) {i : Nat} (hi : i < xs.length) : xs.getD i 0 ∉ xs.take i := by
  intro hm
  obtain ⟨j, hj, e⟩ := List.getElem_of_mem hm
  rw [List.length_take] at hj
  rw [List.getElem_take] at e
  have := (List.pairwise_iff_getElem.1 nd) j i (by omega) hi (by omega)
  rw [e] at this
  simp [List.getD, hi] at this
/-- The engine, and a variable that holds it. -/
def EBx (p C : Nat) (S : EngS) (o : Own) (w : World) : Prop := Owned o w ∧ EngRep o w 1 p S ∧ Blk o w 0 C (.cells #[.pointer (some ⟨p, 0, none⟩)] 23 (0, 0))
theorem EBx.keep {lo hi p C : Nat} {S : EngS} {o o' : Own} {w w' : World} (h : EBx p C S o w) (k : Fr lo hi o o' w w') (hr : 30 ≤ lo ∨ hi = 0) : EBx p C S o' w' := ⟨k.fresh, h.2.1.keep k (by omega), h.2.2.keep k (by omega)⟩
theorem EBx.turn {p C : Nat} {S T : EngS} {o o' : Own} {w w' : World} (h : EBx p C S o w) (k : Fr 1 30 o o' w w') (E : EngRep o' w' 1 p T) : EBx p C T o' w' := ⟨k.fresh, E, h.2.2.keep k (.inl (by omega))⟩
set_option maxRecDepth 100000 in
set_option maxHeartbeats 1000000 in
theorem run2_call {o : Own} {p C : Nat} {S S' : EngS} {b : Bool} {r : Int} (h : Int) (w : World) (B : EBx p C S o w) (hT : Calls Tryz.prog 75 #[.pointer (some ⟨p, 0, none⟩), .int .i64 h] w fun e w' => e = .returned (.int .i64 r) ∧ ∃ o', Fr 1 30 o o' w w' ∧ EngRep o' w' 1 p S') (hr : (r != 0) = b) :
    Calls Tryz.prog 148 #[.int .i64 h, .pointer (some ⟨C, 0, none⟩)] w fun e w' => e = .returned (.bool b) ∧ ∃ o', Fr 1 30 o o' w w' ∧ EBx p C S' o' w' := by
  have cc := B.2.2.cell 0
  simp only [List.getElem?_toArray, List.getElem?_cons_zero] at cc
  have hcl := B.2.2.lt
  have HT := Lib.hid hT
  have HB := Lib.hid B
  clear hT B
  go_enter Tryz.func148, Tryz.ntmps148
  go_wp2_with fail
  go_at_call 75
  refine HT.out.mono ?_
  rintro e w1 ⟨rfl, o1, F1, E1⟩
  have HF := Lib.hid (And.intro F1 (HB.out.turn F1 E1))
  clear F1 E1
  go_wp2_with fail
  go_ret
  exact ⟨by first | rfl | (rw [← hr]; rfl) | simp, o1, HF.out.1, HF.out.2⟩
/-- What a predicate leaves as it is. -/
structure ZKeep (rs : Nat) (Z : Own → World → Prop) : Prop where
  eng : ∀ o o' w w', Z o w → Fr 1 30 o o' w w' → Z o' w'
  row : ∀ o o' w w', Z o w → Fr rs (rs + 1) o o' w w' → Z o' w'
theorem run2_pred {p C rs : Nat} {S : EngS} {Z : Own → World → Prop} (xs : List Int) (hrs : 64 ≤ rs) (hZ : ZKeep rs Z) (nd : xs.Nodup) (hx : ∀ k ∈ xs, ∃ x, S.ob k = some x) (hl : S.pend.length + xs.length ≤ 1048576) :
    PredR 148 #[.pointer (some ⟨C, 0, none⟩)] (fun h => !S.wat h) xs 1 30 rs (fun i o w => EBx p C (tellsA S ((xs.take i).filter S.wat)) o w ∧ Z o w) where
  call := fun i hi o w ho hR => by
    obtain ⟨x, hob⟩ := hx _ (getD_mem hi)
    have hni := take_notin nd hi
    have hsu := filter_take_succ S.wat xs hi
    have hwt : (tellsA S ((xs.take i).filter S.wat)).wat (xs.getD i 0) = S.wat (xs.getD i 0) := by
      rw [tellsA_wat, if_neg (fun hm => hni (List.mem_filter.1 hm).1)]
    have hob' : (tellsA S ((xs.take i).filter S.wat)).ob (xs.getD i 0) = some x := by rw [(tellsA_ob _ _).1]; exact hob
    have hpl : (tellsA S ((xs.take i).filter S.wat)).pend.length ≤ 1048576 := by
      rw [(tellsA_ob _ _).2.2, List.length_append]
      have h1 := List.length_filter_le S.wat (xs.take i)
      rw [List.length_take] at h1
      omega
    cases hw : S.wat (xs.getD i 0) with
    | true =>
      rw [hw] at hwt hsu
      rw [if_pos rfl] at hsu
      rw [hsu, tellsA_snoc]
      refine (run2_call (b := false) (r := 0) _ w hR.1 ((rtell _ x w ho hR.1.2.1 hob' hwt hpl).mono fun e w' hh => hh) rfl).mono fun e w' hh => ?_
      obtain ⟨h1, o', h2, h3⟩ := hh
      exact ⟨h1, o', h2, h3, hZ.eng _ _ _ _ hR.2 h2⟩
    | false =>
      rw [hw] at hwt hsu
      rw [if_neg (by decide), List.append_nil] at hsu
      rw [hsu]
      refine (run2_call (b := true) (r := 1) _ w hR.1 ((rtell_no _ x w ho hR.1.2.1 hob' hwt).mono fun e w' hh => ⟨hh.1, o, hh.2.none 1 30, hR.1.2.1.keep hh.2 (.inr (by omega))⟩) rfl).mono fun e w' hh => ?_
      obtain ⟨h1, o', h2, h3⟩ := hh
      exact ⟨h1, o', h2, h3, hZ.eng _ _ _ _ hR.2 h2⟩
  keep := fun i o o' w w' hR k => ⟨hR.1.keep k (.inl (by omega)), hZ.row _ _ _ _ hR.2 k⟩
  drew := fun i o w hR => ⟨hR.1.keep (lo := 0) (hi := 0) ((Fr.refl hR.1.1).drew) (.inr rfl), hZ.eng _ _ _ _ hR.2 ((Fr.refl hR.1.1).drew)⟩
  enters := fun args w => by kernel_rfl
  apart := .inr (by omega)
/-! ### who goes -/
set_option maxRecDepth 100000 in
set_option maxHeartbeats 1000000 in
theorem run3_call {o : Own} {p C : Nat} {S : EngS} (h : Int) (x : Ob) (w : World) (B : EBx p C S o w) (hx : S.ob h = some x) (hpl : S.pend.length ≤ 1048576) :
    Calls Tryz.prog 149 #[.int .i64 h, .pointer (some ⟨C, 0, none⟩)] w fun e w' => e = .returned (.bool false) ∧ ∃ o', Fr 1 30 o o' w w' ∧ EBx p C (freeA S h) o' w' := by
  have cc := B.2.2.cell 0
  simp only [List.getElem?_toArray, List.getElem?_cons_zero] at cc
  have hcl := B.2.2.lt
  have HT := Lib.hid (rfree h x w (by omega) B.1 B.2.1 hx hpl)
  have HB := Lib.hid B
  clear B hx hpl
  go_enter Tryz.func149, Tryz.ntmps149
  go_wp2_with fail
  go_at_call 81
  refine HT.out.mono ?_
  rintro e w1 ⟨rfl, o1, F1, E1⟩
  have HF := Lib.hid (And.intro F1 (HB.out.turn F1 E1))
  clear F1 E1
  go_wp2_with fail
  go_ret
  exact ⟨rfl, o1, HF.out.1, HF.out.2⟩
theorem run3_pred {p C rs : Nat} {S : EngS} {Z : Own → World → Prop} (xs : List Int) (hrs : 64 ≤ rs) (hZ : ZKeep rs Z) (nd : xs.Nodup) (hx : ∀ k ∈ xs, ∃ x, S.ob k = some x) (hl : S.pend.length ≤ 1048576) :
    PredR 149 #[.pointer (some ⟨C, 0, none⟩)] (fun _ => false) xs 1 30 rs (fun i o w => EBx p C (freesA S (xs.take i)) o w ∧ Z o w) where
  call := fun i hi o w ho hR => by
    obtain ⟨x, hob⟩ := (freesA_live (xs.take i) S (xs.getD i 0)).2 ⟨take_notin nd hi, hx _ (getD_mem hi)⟩
    have hpl := freesA_pend (xs.take i) S
    rw [take_succ_getD hi, freesA_snoc]
    refine (run3_call _ x w hR.1 hob (by omega)).mono fun e w' hh => ?_
    obtain ⟨h1, o', h2, h3⟩ := hh
    exact ⟨h1, o', h2, h3, hZ.eng _ _ _ _ hR.2 h2⟩
  keep := fun i o o' w w' hR k => ⟨hR.1.keep k (.inl (by omega)), hZ.row _ _ _ _ hR.2 k⟩
  drew := fun i o w hR => ⟨hR.1.keep (lo := 0) (hi := 0) ((Fr.refl hR.1.1).drew) (.inr rfl), hZ.eng _ _ _ _ hR.2 ((Fr.refl hR.1.1).drew)⟩
  enters := fun args w => by kernel_rfl
  apart := .inr (by omega)
end Go.Proofs.YtlpklloagaccoaaGreat
