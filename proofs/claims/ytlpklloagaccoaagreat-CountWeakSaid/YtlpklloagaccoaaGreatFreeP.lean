/- Parts of count.Free: what is no object is let be by down; a weak object's cells; what a table, the sets, the maps of an engine forget. Conditions: the engine is as one that was made. -/
import Derived.Test.YtlpklloagaccoaaGreatObDrop
import Derived.Test.YtlpklloagaccoaaGreatRefs
import Derived.Test.YtlpklloagaccoaaGreatGdFree
import Derived.Test.YtlpklloagaccoaaGreatSorted
import Derived.Test.YtlpklloagaccoaaGreatTells
import Derived.Outline
namespace Go.Proofs.YtlpklloagaccoaaGreat
open Go.RowKit
set_option linter.unusedVariables false

set_option maxRecDepth 100000 in
theorem spill_forget {o : Own} {r p : Nat} {lim : Int} {ex : Int → Int} {st : Int → Bool} (h : Int) (w : World) (ho : Owned o w) (S : SpillRep o w r p lim ex st) :
    Calls Tryz.prog 130 #[.pointer (some ⟨p, 0, none⟩), .int .i64 h] w (SpillPost o w r p lim (.tuple #[]) (upd ex h 0) (updB st h false)) := by
  obtain ⟨b1, b2, f1, f2, S⟩ := S
  have c1 := S.blk.cell 1
  have c2 := S.blk.cell 2
  simp only [List.getElem?_toArray, List.getElem?_cons_zero, List.getElem?_cons_succ] at c1 c2
  have n1 : ¬ p = b1 := fun e => by have h1 := S.blk.1; have h2 := S.m1.1; rw [e] at h1; omega
  have n2 : ¬ p = b2 := fun e => by have h1 := S.blk.1; have h2 := S.m2.1; rw [e] at h1; omega
  have n3 : ¬ b1 = b2 := fun e => by have h1 := S.m1.1; have h2 := S.m2.1; rw [e] at h1; omega
  have HS := Lib.hid S
  have HO := Lib.hid ho
  clear S ho
  go_enter Tryz.func130, Tryz.ntmps130
  go_wp2_with (first
    | (at_delete; refine wpList_delete_is _ rfl _ _ 148 3 rfl 3 Tryz.underlying148 Tryz.underlying3 b1 _ (by exact HS.out.m1.2) rfl h rfl ?_; intro w2 hm2 ht2; have d2 : w2.cell? ⟨p, 2, none⟩ = some (.map (some b2)) := (ht2.cell n1).trans c2; have HM2 := Lib.hid hm2; have HT2 := Lib.hid ht2; have HB2 := Lib.hid (HS.out.m2.2.of_eq (ht2.block _ (fun e => n3 e.symm))); clear hm2 ht2 c1 c2)
    | (at_delete; refine wpList_delete_is _ rfl _ _ 100 3 rfl 4 Tryz.underlying100 Tryz.underlying3 b2 _ (by exact HB2.out) rfl h rfl ?_; intro w3 hm3 ht3; have HM3 := Lib.hid hm3; have HT3 := Lib.hid ht3; clear hm3 ht3))
  go_end0
  have F2 := HT2.out.fr (lo := r) (hi := r + 3) HO.out (by rw [HS.out.m1.1]; omega)
  have F3 := HT3.out.fr (lo := r) (hi := r + 3) F2.fresh (by rw [HS.out.m2.1]; omega)
  refine ⟨rfl, F2.trans F3, b1, b2, _, _, ⟨HS.out.blk.1, ((HT3.out.block _ n2).trans (HT2.out.block _ n1)).trans HS.out.blk.2⟩, ⟨HS.out.m1.1, HM2.out.of_eq (HT3.out.block _ n3)⟩, ⟨HS.out.m2.1, HM3.out⟩, fun k => ?_, fun k => ?_, HS.out.lim1, fun k => ?_⟩
  · unfold upd
    by_cases e : k = h
    · rw [if_pos e, if_pos e]; rfl
    · rw [if_neg e, if_neg e]; exact HS.out.e1 k
  · unfold updB
    by_cases e : k = h
    · rw [if_pos e, if_pos e]; rfl
    · rw [if_neg e, if_neg e]; exact HS.out.e2 k
  · unfold upd updB
    have := HS.out.lim1
    by_cases e : k = h
    · rw [if_pos e, if_pos e]; exact ⟨by omega, by omega, fun _ => by omega⟩
    · rw [if_neg e, if_neg e]; exact HS.out.ex1 k
theorem xdown_no {o : Own} {r p : Nat} {S : EngS} {ps pt pz pp bw bk : Nat} {v : Value} (h : Int) (w : World) (ho : Owned o w) (E : EngX o w r p S ps pt pz pp bw bk v) (hx : S.ob h = none) :
    Calls Tryz.prog 119 #[.pointer (some ⟨p, 0, none⟩), .int .i64 h] w fun e w' => e = .returned (.tuple #[]) ∧ Fr 0 0 o o w w' := by
  obtain ⟨K, E, A⟩ := E
  have hy := A.of_none hx
  have HHd := Lib.hid (fun (w1 : World) (F : Fr 0 0 o o w w1) => show Calls Tryz.prog 54 #[.pointer (some ⟨ps, 0, none⟩), .int .i64 h] w1 fun e w' => e = .returned (.tuple #[hdV 0 0 0 0 0 false false, .int .i64 3]) ∧ Fr 0 0 o o w w' from
    (ohead_no h w1 F.fresh (E.sp.keep F (.inr (Nat.zero_le _))) hy).mono fun e w' hh => ⟨hh.1, F.below hh.2⟩)
  have c0 := E.c0
  have hpl := E.blk.lt
  have HO := Lib.hid ho
  clear E A ho hx hy
  go_enter Tryz.func119, Tryz.ntmps119
  go_wp2_with fail
  go_at_call 54
  refine (HHd.out _ (by repeat (first | exact Fr.refl HO.out | refine Fr.drew ?_ | refine Fr.alloc ?_ _))).mono ?_
  rintro e w1 ⟨rfl, F1⟩
  have HF1 := Lib.hid F1
  clear F1
  go_wp2_with fail
  refine bodyPost_ret (results_none rfl _ _ _) rfl ?_
  exact ⟨rfl, by repeat (first | exact HF1.out | refine Fr.drew ?_ | refine Fr.alloc ?_ _ | refine Fr.setCell ?_ _ _ (.inr (by have := HF1.out.size; omega)))⟩
/-- An object's first cells that referred to what is no more. -/
def clrN (x : Ob) (h : Int) (i : Nat) : Ob := { x with val := fun j => if j < i ∧ (x.val j).1 = 3 ∧ (x.val j).2 = h then (0, 0) else x.val j }
theorem clrN_zero (x : Ob) (h : Int) : clrN x h 0 = x := by
  unfold clrN
  have : (fun j => if j < 0 ∧ (x.val j).1 = 3 ∧ (x.val j).2 = h then ((0 : Nat), (0 : Int)) else x.val j) = x.val := by
    funext j; rw [if_neg (by omega)]
  rw [this]
theorem clrN_all (x : Ob) (h : Int) : clrN x h x.cells = clrX x h := rfl
theorem clrN_set (x : Ob) (h : Int) (i : Nat) (e : (x.val i).1 = 3 ∧ (x.val i).2 = h) : setVal (clrN x h i) i (0, 0) = clrN x h (i + 1) := by
  unfold setVal clrN
  congr 1
  funext j
  show updF (fun j => if j < i ∧ (x.val j).1 = 3 ∧ (x.val j).2 = h then ((0 : Nat), (0 : Int)) else x.val j) i (0, 0) j = _
  unfold updF
  by_cases hj : j = i
  · subst hj; rw [if_pos rfl, if_pos ⟨by omega, e⟩]
  · rw [if_neg hj]
    show (if j < i ∧ (x.val j).1 = 3 ∧ (x.val j).2 = h then ((0 : Nat), (0 : Int)) else x.val j) = if j < i + 1 ∧ (x.val j).1 = 3 ∧ (x.val j).2 = h then ((0 : Nat), (0 : Int)) else x.val j
    by_cases hlt : j < i
    · by_cases h2 : (x.val j).1 = 3 ∧ (x.val j).2 = h
      · rw [if_pos ⟨hlt, h2⟩, if_pos ⟨by omega, h2⟩]
      · rw [if_neg (fun z => h2 z.2), if_neg (fun z => h2 z.2)]
    · rw [if_neg (fun z => hlt z.1), if_neg (fun z => by have := z.1; omega)]
theorem clrN_skip (x : Ob) (h : Int) (i : Nat) (e : ¬ ((x.val i).1 = 3 ∧ (x.val i).2 = h)) : clrN x h (i + 1) = clrN x h i := by
  unfold clrN
  congr 1
  funext j
  by_cases hj : j = i
  · subst hj; rw [if_neg (fun z => e z.2), if_neg (fun z => e z.2)]
  · by_cases h2 : (x.val j).1 = 3 ∧ (x.val j).2 = h
    · by_cases hlt : j < i
      · rw [if_pos ⟨by omega, h2⟩, if_pos ⟨hlt, h2⟩]
      · rw [if_neg (fun z => by have := z.1; omega), if_neg (fun z => hlt z.1)]
    · rw [if_neg (fun z => h2 z.2), if_neg (fun z => h2 z.2)]
def putObA (S : EngS) (k : Int) (x : Option Ob) : EngS := { S with ob := updI S.ob k x }
def ForgetPost (o : Own) (w : World) (r p : Nat) (S : EngS) (ps pt pz pp bw bk : Nat) (v : Value) (k h : Int) (e : Ending) (w' : World) : Prop :=
  e = .returned (.tuple #[]) ∧ EngXAt o w r p (putObA S k ((S.ob k).map fun x => clrX x h)) ps pt pz pp bw bk v w'
set_option maxRecDepth 100000 in
set_option maxHeartbeats 1000000 in
theorem xforget {o : Own} {r p : Nat} {S : EngS} {ps pt pz pp bw bk : Nat} {v : Value} (k h : Int) (w : World) (hr : 1 ≤ r) (ho : Owned o w) (E : EngX o w r p S ps pt pz pp bw bk v) :
    Calls Tryz.prog 128 #[.pointer (some ⟨p, 0, none⟩), .int .i64 k, .int .i64 h] w (ForgetPost o w r p S ps pt pz pp bw bk v k h) := by
  have HC := rcells k w ho E.rep
  cases hx : S.ob k with
  | none =>
    have hz : cellsA S k = 0 := by unfold cellsA; rw [hx]
    rw [hz] at HC
    have HC := Lib.hid HC
    have HQ := Lib.hid (show putObA S k ((S.ob k).map fun x => clrX x h) = S from by
      unfold putObA
      rw [hx]
      have : updI S.ob k (Option.map (fun x => clrX x h) none) = S.ob := by
        funext j; unfold updI; by_cases e : j = k
        · rw [if_pos e, e, hx]; rfl
        · rw [if_neg e]
      rw [this])
    have HE := Lib.hid E
    have HO := Lib.hid ho
    clear E ho hx hz
    go_enter Tryz.func128, Tryz.ntmps128
    go_wp2_with (go_at_call 32; refine HC.out.mono ?_; rintro e w1 ⟨rfl, hb⟩; have HF1 := Lib.hid ((Fr.refl (lo := 0) (hi := 0) HO.out).below hb); clear hb)
    refine wp_loop_rounds 1 ?_
    rw [rounds_succ]
    go_wp2_with fail
    go_end0
    exact ⟨rfl, o, HF1.out.none r (r + 29), by rw [HQ.out]; exact HE.out.keep HF1.out (.inr (Nat.zero_le _))⟩
  | some x =>
    have hz : cellsA S k = x.cells := cellsA_of hx
    rw [hz] at HC
    have hc4 : x.cells ≤ 4000 := by have := cellsA_le E.rep k; omega
    have HC := Lib.hid HC
    have HE := Lib.hid E
    have HX := Lib.hid hx
    have HO := Lib.hid ho
    have hc4' : (x.cells : Int) ≤ 4000 := by omega
    have HR := Lib.hid hr
    clear E ho hx hz hc4 hr
    unfold ForgetPost
    rw [show (S.ob k).map (fun x => clrX x h) = some (clrX x h) from by rw [HX.out]; rfl]
    go_enter Tryz.func128, Tryz.ntmps128
    go_wp2_with (go_at_call 32; refine HC.out.mono ?_; rintro e w1 ⟨rfl, hb⟩; have HF1 := Lib.hid ((Fr.refl (lo := 0) (hi := 0) HO.out).below hb); clear hb)
    go_loopw [12] (fun iv wr => ∃ (i : Nat) (o' : Own), i ≤ x.cells ∧ iv = .int .i64 i ∧ Fr r (r + 29) o o' w wr ∧ EngX o' wr r p (putObA S k (some (clrN x h i))) ps pt pz pp bw bk v) (fun iv _ => x.cells - (intOf iv).toNat)
    case atStart => exact ⟨0, o, by omega, rfl, HF1.out.none r (r + 29), by
      rw [clrN_zero]
      have e : putObA S k (some x) = S := by
        unfold putObA
        have : updI S.ob k (some x) = S.ob := by
          funext j; unfold updI; by_cases e : j = k
          · rw [if_pos e, e, HX.out]
          · rw [if_neg e]
        rw [this]
      rw [e]; exact HE.out.keep HF1.out (.inr (Nat.zero_le _))⟩
    case round =>
      obtain ⟨i, oi, hi, rfl, Fi, Ei⟩ := hrel
      have HFi := Lib.hid Fi
      have HEi := Lib.hid Ei
      by_cases hin : i < x.cells
      · have hin' : (i : Int) < (x.cells : Int) := by omega
        have hob : (putObA S k (some (clrN x h i))).ob k = some (clrN x h i) := if_pos rfl
        have hval : (clrN x h i).val i = x.val i := if_neg (fun z => by have := z.1; omega)
        have hG := xcell k i (clrN x h i) i Fi.fresh Ei hob rfl hin
        rw [hval] at hG
        have HG := Lib.hid hG
        have c0 := Ei.p0.1
        have hpl := Ei.p0.2.2
        clear Fi Ei hob hval hG
        have HStep := Lib.hid (fun (w5 : World) (F : Fr 0 0 oi oi wr w5) => show Calls Tryz.prog 61 #[.pointer (some ⟨ps, 0, none⟩), .int .i64 k, .int .i64 (i : Nat), .agg #[.int .i64 0, .int .i64 0]] w5 fun e w' => e = .returned (.int .i64 0) ∧ ∃ o', Fr r (r + 29) oi o' wr w' ∧ EngX o' w' r p (putObA S k (some (setVal (clrN x h i) i (0, 0)))) ps pt pz pp bw bk v from by
          refine (xsetcell k i (clrN x h i) i 0 0 F.fresh (HEi.out.keep F (.inr (Nat.zero_le _))) (if_pos rfl) rfl hin (by omega) (by unfold in64; omega)).mono fun e w' hh => ?_
          obtain ⟨h1, o', F', E'⟩ := hh
          refine ⟨h1, o', (F.none r (r + 29)).trans F', ?_⟩
          have e2 : wrA (putObA S k (some (clrN x h i))) k (clrN x h i) i 0 0 = putObA S k (some (setVal (clrN x h i) i (0, 0))) := by
            unfold wrA putObA
            simp only [updI_twice]
          rw [← e2]; exact E')
        by_cases h3 : (x.val i).1 = 3 ∧ (x.val i).2 = h
        · have HQ := Lib.hid (clrN_set x h i h3)
          rw [h3.1, h3.2] at HG
          clear h3
          go_wp2_with fail
          go_at_call 59
          refine HG.out.mono ?_
          rintro e w2 ⟨rfl, hb⟩
          have HF2 := Lib.hid ((Fr.refl (lo := 0) (hi := 0) HFi.out.fresh).below hb)
          have c0' := HF2.out.cell0 c0
          have hpl2 : p < w2.heap.size := Nat.lt_of_lt_of_le hpl HF2.out.size
          clear hb
          go_wp2_with fail
          go_at_call 61
          refine (HStep.out _ (by repeat (first | exact HF2.out | refine Fr.drew ?_ | refine Fr.alloc ?_ _))).mono ?_
          rintro e w3 ⟨rfl, o3, F3, E3⟩
          rw [HQ.out] at E3
          have H3 := Lib.hid (And.intro F3 E3)
          clear F3 E3
          go_wp2_with fail
          exact ⟨⟨i + 1, o3, by omega, by go_num, HFi.out.trans H3.out.1, H3.out.2⟩, by simp [intOf]; omega⟩
        · have HQ := Lib.hid (clrN_skip x h i h3)
          have HN := Lib.hid h3
          have hcase : (x.val i).1 ≠ 3 ∨ ((x.val i).1 = 3 ∧ (x.val i).2 ≠ h) := by
            by_cases h1 : (x.val i).1 = 3
            · exact .inr ⟨h1, fun e => h3 ⟨h1, e⟩⟩
            · exact .inl h1
          clear h3
          have HRel := Lib.hid (fun (w5 : World) (F : Fr 0 0 oi oi wr w5) => show EngX oi w5 r p (putObA S k (some (clrN x h (i + 1)))) ps pt pz pp bw bk v from by rw [HQ.out]; exact HEi.out.keep F (.inr (Nat.zero_le _)))
          rcases hcase with hne | ⟨h1, hne⟩
          · have h3' : (((x.val i).1 : Nat) : Int) ≠ 3 := by omega
            clear hne
            generalize (x.val i).2 = z at *
            generalize (x.val i).1 = q at *
            go_wp2_with fail
            go_at_call 59
            refine HG.out.mono ?_
            rintro e w2 ⟨rfl, hb⟩
            have HF2 := Lib.hid ((Fr.refl (lo := 0) (hi := 0) HFi.out.fresh).below hb)
            clear hb
            go_wp2_with fail
            exact ⟨⟨i + 1, oi, by omega, by go_num, HFi.out.trans ((HF2.out.none r (r + 29)).alloc _), HRel.out _ (HF2.out.alloc _)⟩, by simp [intOf]; omega⟩
          · rw [h1] at HG
            clear h1
            generalize (x.val i).2 = z at *
            go_wp2_with fail
            go_at_call 59
            refine HG.out.mono ?_
            rintro e w2 ⟨rfl, hb⟩
            have HF2 := Lib.hid ((Fr.refl (lo := 0) (hi := 0) HFi.out.fresh).below hb)
            clear hb
            go_wp2_with fail
            exact ⟨⟨i + 1, oi, by omega, by go_num, HFi.out.trans ((HF2.out.none r (r + 29)).alloc _), HRel.out _ (HF2.out.alloc _)⟩, by simp [intOf]; omega⟩
      · have hin' : ¬ (i : Int) < (x.cells : Int) := by omega
        obtain rfl : i = x.cells := by omega
        clear Fi Ei
        go_wp2_with fail
        go_end0
        exact ⟨rfl, oi, HFi.out, by rw [← clrN_all]; exact HEi.out⟩
end Go.Proofs.YtlpklloagaccoaaGreat
