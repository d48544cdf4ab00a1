/- Parts of count.Free: what is no object is let be by down; a weak object's cells; what a table, the sets, the maps of an engine forget. Conditions: the engine is as one that was made. An object is freed (count.Free). Conditions: it is one; the engine is as one that was made. -/
import Derived.Test.YtlpklloagaccoaaGreatFree1
import Derived.Test.YtlpklloagaccoaaGreatRefs
import Derived.Test.YtlpklloagaccoaaGreatGdA
import Derived.Test.YtlpklloagaccoaaGreatZeros
import Derived.Test.YtlpklloagaccoaaGreatTells
import Derived.Outline
import Derived.Test.YtlpklloagaccoaaGreatDelF
import Derived.StillTailTactics
namespace Go.Proofs.YtlpklloagaccoaaGreat
open Go.RowKit
set_option linter.unusedVariables false

set_option maxRecDepth 100000 in
theorem spill_forget {o : Own} {r p : Nat} {lim : Int} {ex : Int → Int} {st : Int → Bool} (h : Int) (w : World) (ho : Owned o w) (S : SpillRep o w r p lim ex st) :
    Calls Tryz.prog 130 #[.pointer (some ⟨p, 0, none⟩), .int .i64 h] w (SpillPost o w r p lim (.tuple #[]) (upd ex h 0) (updB st h false)) := by
  obtain ⟨b1, b2, f1, f2, S⟩ := S
  have c1 := S.blk.cell 1
  have c2 := S.blk.cell 2
  simp only [List.getElem?_toArray, List.getElem?_cons_zero, List.getElem?_cons_succ] at c1 c2
  have n1 : ¬ p = b1 := fun e => by have h1 := S.blk.1; have h2 := S.m1.1; rw [e] at h1; omega
  have n2 : ¬ p = b2 := fun e => by have h1 := S.blk.1; have h2 := S.m2.1; rw [e] at h1; omega
  have n3 : ¬ b1 = b2 := fun e => by have h1 := S.m1.1; have h2 := S.m2.1; rw [e] at h1; omega
  have HS := Lib.hid S
  have HO := Lib.hid ho
  clear S ho
  go_enter Tryz.func130, Tryz.ntmps130
  go_wp2_with (first
    | (at_delete; refine wpList_delete_is _ rfl _ _ 148 3 rfl 3 Tryz.underlying148 Tryz.underlying3 b1 _ (by exact HS.out.m1.2) rfl h rfl ?_; intro w2 hm2 ht2; have d2 : w2.cell? ⟨p, 2, none⟩ = some (.map (some b2)) := (ht2.cell n1).trans c2; have HM2 := Lib.hid hm2; have HT2 := Lib.hid ht2; have HB2 := Lib.hid (HS.out.m2.2.of_eq (ht2.block _ (fun e => n3 e.symm))); clear hm2 ht2 c1 c2)
    | (at_delete; refine wpList_delete_is _ rfl _ _ 100 3 rfl 4 Tryz.underlying100 Tryz.underlying3 b2 _ (by exact HB2.out) rfl h rfl ?_; intro w3 hm3 ht3; have HM3 := Lib.hid hm3; have HT3 := Lib.hid ht3; clear hm3 ht3))
  go_end0
  have F2 := HT2.out.fr (lo := r) (hi := r + 3) HO.out (by rw [HS.out.m1.1]; omega)
  have F3 := HT3.out.fr (lo := r) (hi := r + 3) F2.fresh (by rw [HS.out.m2.1]; omega)
  refine ⟨rfl, F2.trans F3, b1, b2, _, _, ⟨HS.out.blk.1, ((HT3.out.block _ n2).trans (HT2.out.block _ n1)).trans HS.out.blk.2⟩, ⟨HS.out.m1.1, HM2.out.of_eq (HT3.out.block _ n3)⟩, ⟨HS.out.m2.1, HM3.out⟩, fun k => ?_, fun k => ?_, HS.out.lim1, fun k => ?_⟩
  · unfold upd
    by_cases e : k = h
    · rw [if_pos e, if_pos e]; rfl
    · rw [if_neg e, if_neg e]; exact HS.out.e1 k
  · unfold updB
    by_cases e : k = h
    · rw [if_pos e, if_pos e]; rfl
    · rw [if_neg e, if_neg e]; exact HS.out.e2 k
  · unfold upd updB
    have := HS.out.lim1
    by_cases e : k = h
    · rw [if_pos e, if_pos e]; exact ⟨by omega, by omega, fun _ => by omega⟩
    · rw [if_neg e, if_neg e]; exact HS.out.ex1 k
theorem xdown_no {o : Own} {r p : Nat} {S : EngS} {ps pt pz pp bw bk : Nat} {v : Value} (h : Int) (w : World) (ho : Owned o w) (E : EngX o w r p S ps pt pz pp bw bk v) (hx : S.ob h = none) :
    Calls Tryz.prog 119 #[.pointer (some ⟨p, 0, none⟩), .int .i64 h] w fun e w' => e = .returned (.tuple #[]) ∧ Fr 0 0 o o w w' := by
  obtain ⟨K, E, A⟩ := E
  have hy := A.of_none hx
  have HHd := Lib.hid (fun (w1 : World) (F : Fr 0 0 o o w w1) => show Calls Tryz.prog 54 #[.pointer (some ⟨ps, 0, none⟩), .int .i64 h] w1 fun e w' => e = .returned (.tuple #[hdV 0 0 0 0 0 false false, .int .i64 3]) ∧ Fr 0 0 o o w w' from
    (ohead_no h w1 F.fresh (E.sp.keep F (.inr (Nat.zero_le _))) hy).mono fun e w' hh => ⟨hh.1, F.below hh.2⟩)
  have c0 := E.c0
  have hpl := E.blk.lt
  have HO := Lib.hid ho
  clear E A ho hx hy
  go_enter Tryz.func119, Tryz.ntmps119
  go_wp2_with fail
  go_at_call 54
  refine (HHd.out _ (by repeat (first | exact Fr.refl HO.out | refine Fr.drew ?_ | refine Fr.alloc ?_ _))).mono ?_
  rintro e w1 ⟨rfl, F1⟩
  have HF1 := Lib.hid F1
  clear F1
  go_wp2_with fail
  refine bodyPost_ret (results_none rfl _ _ _) rfl ?_
  exact ⟨rfl, by repeat (first | exact HF1.out | refine Fr.drew ?_ | refine Fr.alloc ?_ _ | refine Fr.setCell ?_ _ _ (.inr (by have := HF1.out.size; omega)))⟩
/-- An object's first cells that referred to what is no more. -/
def clrN (x : Ob) (h : Int) (i : Nat) : Ob := { x with val := fun j => if j < i ∧ (x.val j).1 = 3 ∧ (x.val j).2 = h then (0, 0) else x.val j }
theorem clrN_zero (x : Ob) (h : Int) : clrN x h 0 = x := by
  unfold clrN
  have : (fun j => if j < 0 ∧ (x.val j).1 = 3 ∧ (x.val j).2 = h then ((0 : Nat), (0 : Int)) else x.val j) = x.val := by
    funext j; rw [if_neg (by omega)]
  rw [this]
theorem clrN_all (x : Ob) (h : Int) : clrN x h x.cells = clrX x h := rfl
theorem clrN_set (x : Ob) (h : Int) (i : Nat) (e : (x.val i).1 = 3 ∧ (x.val i).2 = h) : setVal (clrN x h i) i (0, 0) = clrN x h (i + 1) := by
  unfold setVal clrN
  congr 1
  funext j
  show updF (fun j => if j < i ∧ (x.val j).1 = 3 ∧ (x.val j).2 = h then ((0 : Nat), (0 : Int)) else x.val j) i (0, 0) j = _
  unfold updF
  by_cases hj : j = i
  · subst hj; rw [if_pos rfl, if_pos ⟨by omega, e⟩]
  · rw [if_neg hj]
    show (if j < i ∧ (x.val j).1 = 3 ∧ (x.val j).2 = h then ((0 : Nat), (0 : Int)) else x.val j) = if j < i + 1 ∧ (x.val j).1 = 3 ∧ (x.val j).2 = h then ((0 : Nat), (0 : Int)) else x.val j
    by_cases hlt : j < i
    · by_cases h2 : (x.val j).1 = 3 ∧ (x.val j).2 = h
      · rw [if_pos ⟨hlt, h2⟩, if_pos ⟨by omega, h2⟩]
      · rw [if_neg (fun z => h2 z.2), if_neg (fun z => h2 z.2)]
    · rw [if_neg (fun z => hlt z.1), if_neg (fun z => by have := z.1; omega)]
theorem clrN_skip (x : Ob) (h : Int) (i : Nat) (e : ¬ ((x.val i).1 = 3 ∧ (x.val i).2 = h)) : clrN x h (i + 1) = clrN x h i := by
  unfold clrN
  congr 1
  funext j
  by_cases hj : j = i
  · subst hj; rw [if_neg (fun z => e z.2), if_neg (fun z => e z.2)]
  · by_cases h2 : (x.val j).1 = 3 ∧ (x.val j).2 = h
    · by_cases hlt : j < i
      · rw [if_pos ⟨by omega, h2⟩, if_pos ⟨hlt, h2⟩]
      · rw [if_neg (fun z => by have := z.1; omega), if_neg (fun z => hlt z.1)]
    · rw [if_neg (fun z => h2 z.2), if_neg (fun z => h2 z.2)]
def putObA (S : EngS) (k : Int) (x : Option Ob) : EngS := { S with ob := updI S.ob k x }
def ForgetPost (o : Own) (w : World) (r p : Nat) (S : EngS) (ps pt pz pp bw bk : Nat) (v : Value) (k h : Int) (e : Ending) (w' : World) : Prop :=
  e = .returned (.tuple #[]) ∧ EngXAt o w r p (putObA S k ((S.ob k).map fun x => clrX x h)) ps pt pz pp bw bk v w'
set_option maxRecDepth 100000 in
set_option maxHeartbeats 1000000 in
theorem xforget {o : Own} {r p : Nat} {S : EngS} {ps pt pz pp bw bk : Nat} {v : Value} (k h : Int) (w : World) (hr : 1 ≤ r) (ho : Owned o w) (E : EngX o w r p S ps pt pz pp bw bk v) :
    Calls Tryz.prog 128 #[.pointer (some ⟨p, 0, none⟩), .int .i64 k, .int .i64 h] w (ForgetPost o w r p S ps pt pz pp bw bk v k h) := by
  have HC := rcells k w ho E.rep
  cases hx : S.ob k with
  | none =>
    have hz : cellsA S k = 0 := by unfold cellsA; rw [hx]
    rw [hz] at HC
    have HC := Lib.hid HC
    have HQ := Lib.hid (show putObA S k ((S.ob k).map fun x => clrX x h) = S from by
      unfold putObA
      rw [hx]
      have : updI S.ob k (Option.map (fun x => clrX x h) none) = S.ob := by
        funext j; unfold updI; by_cases e : j = k
        · rw [if_pos e, e, hx]; rfl
        · rw [if_neg e]
      rw [this])
    have HE := Lib.hid E
    have HO := Lib.hid ho
    clear E ho hx hz
    go_enter Tryz.func128, Tryz.ntmps128
    go_wp2_with (go_at_call 32; refine HC.out.mono ?_; rintro e w1 ⟨rfl, hb⟩; have HF1 := Lib.hid ((Fr.refl (lo := 0) (hi := 0) HO.out).below hb); clear hb)
    refine wp_loop_rounds 1 ?_
    rw [rounds_succ]
    go_wp2_with fail
    go_end0
    exact ⟨rfl, o, HF1.out.none r (r + 29), by rw [HQ.out]; exact HE.out.keep HF1.out (.inr (Nat.zero_le _))⟩
  | some x =>
    have hz : cellsA S k = x.cells := cellsA_of hx
    rw [hz] at HC
    have hc4 : x.cells ≤ 4000 := by have := cellsA_le E.rep k; omega
    have HC := Lib.hid HC
    have HE := Lib.hid E
    have HX := Lib.hid hx
    have HO := Lib.hid ho
    have hc4' : (x.cells : Int) ≤ 4000 := by omega
    have HR := Lib.hid hr
    clear E ho hx hz hc4 hr
    unfold ForgetPost
    rw [show (S.ob k).map (fun x => clrX x h) = some (clrX x h) from by rw [HX.out]; rfl]
    go_enter Tryz.func128, Tryz.ntmps128
    go_wp2_with (go_at_call 32; refine HC.out.mono ?_; rintro e w1 ⟨rfl, hb⟩; have HF1 := Lib.hid ((Fr.refl (lo := 0) (hi := 0) HO.out).below hb); clear hb)
    go_loopw [12] (fun iv wr => ∃ (i : Nat) (o' : Own), i ≤ x.cells ∧ iv = .int .i64 i ∧ Fr r (r + 29) o o' w wr ∧ EngX o' wr r p (putObA S k (some (clrN x h i))) ps pt pz pp bw bk v) (fun iv _ => x.cells - (intOf iv).toNat)
    case atStart => exact ⟨0, o, by omega, rfl, HF1.out.none r (r + 29), by
      rw [clrN_zero]
      have e : putObA S k (some x) = S := by
        unfold putObA
        have : updI S.ob k (some x) = S.ob := by
          funext j; unfold updI; by_cases e : j = k
          · rw [if_pos e, e, HX.out]
          · rw [if_neg e]
        rw [this]
      rw [e]; exact HE.out.keep HF1.out (.inr (Nat.zero_le _))⟩
    case round =>
      obtain ⟨i, oi, hi, rfl, Fi, Ei⟩ := hrel
      have HFi := Lib.hid Fi
      have HEi := Lib.hid Ei
      by_cases hin : i < x.cells
      · have hin' : (i : Int) < (x.cells : Int) := by omega
        have hob : (putObA S k (some (clrN x h i))).ob k = some (clrN x h i) := if_pos rfl
        have hval : (clrN x h i).val i = x.val i := if_neg (fun z => by have := z.1; omega)
        have hG := xcell k i (clrN x h i) i Fi.fresh Ei hob rfl hin
        rw [hval] at hG
        have HG := Lib.hid hG
        have c0 := Ei.p0.1
        have hpl := Ei.p0.2.2
        clear Fi Ei hob hval hG
        have HStep := Lib.hid (fun (w5 : World) (F : Fr 0 0 oi oi wr w5) => show Calls Tryz.prog 61 #[.pointer (some ⟨ps, 0, none⟩), .int .i64 k, .int .i64 (i : Nat), .agg #[.int .i64 0, .int .i64 0]] w5 fun e w' => e = .returned (.int .i64 0) ∧ ∃ o', Fr r (r + 29) oi o' wr w' ∧ EngX o' w' r p (putObA S k (some (setVal (clrN x h i) i (0, 0)))) ps pt pz pp bw bk v from by
          refine (xsetcell k i (clrN x h i) i 0 0 F.fresh (HEi.out.keep F (.inr (Nat.zero_le _))) (if_pos rfl) rfl hin (by omega) (by unfold in64; omega)).mono fun e w' hh => ?_
          obtain ⟨h1, o', F', E'⟩ := hh
          refine ⟨h1, o', (F.none r (r + 29)).trans F', ?_⟩
          have e2 : wrA (putObA S k (some (clrN x h i))) k (clrN x h i) i 0 0 = putObA S k (some (setVal (clrN x h i) i (0, 0))) := by
            unfold wrA putObA
            simp only [updI_twice]
          rw [← e2]; exact E')
        by_cases h3 : (x.val i).1 = 3 ∧ (x.val i).2 = h
        · have HQ := Lib.hid (clrN_set x h i h3)
          rw [h3.1, h3.2] at HG
          clear h3
          go_wp2_with fail
          go_at_call 59
          refine HG.out.mono ?_
          rintro e w2 ⟨rfl, hb⟩
          have HF2 := Lib.hid ((Fr.refl (lo := 0) (hi := 0) HFi.out.fresh).below hb)
          have c0' := HF2.out.cell0 c0
          have hpl2 : p < w2.heap.size := Nat.lt_of_lt_of_le hpl HF2.out.size
          clear hb
          go_wp2_with fail
          go_at_call 61
          refine (HStep.out _ (by repeat (first | exact HF2.out | refine Fr.drew ?_ | refine Fr.alloc ?_ _))).mono ?_
          rintro e w3 ⟨rfl, o3, F3, E3⟩
          rw [HQ.out] at E3
          have H3 := Lib.hid (And.intro F3 E3)
          clear F3 E3
          go_wp2_with fail
          exact ⟨⟨i + 1, o3, by omega, by go_num, HFi.out.trans H3.out.1, H3.out.2⟩, by simp [intOf]; omega⟩
        · have HQ := Lib.hid (clrN_skip x h i h3)
          have HN := Lib.hid h3
          have hcase : (x.val i).1 ≠ 3 ∨ ((x.val i).1 = 3 ∧ (x.val i).2 ≠ h) := by
            by_cases h1 : (x.val i).1 = 3
            · exact .inr ⟨h1, fun e => h3 ⟨h1, e⟩⟩
            · exact .inl h1
          clear h3
          have HRel := Lib.hid (fun (w5 : World) (F : Fr 0 0 oi oi wr w5) => show EngX oi w5 r p (putObA S k (some (clrN x h (i + 1)))) ps pt pz pp bw bk v from by rw [HQ.out]; exact HEi.out.keep F (.inr (Nat.zero_le _)))
          rcases hcase with hne | ⟨h1, hne⟩
          · have h3' : (((x.val i).1 : Nat) : Int) ≠ 3 := by omega
            clear hne
            generalize (x.val i).2 = z at *
            generalize (x.val i).1 = q at *
            go_wp2_with fail
            go_at_call 59
            refine HG.out.mono ?_
            rintro e w2 ⟨rfl, hb⟩
            have HF2 := Lib.hid ((Fr.refl (lo := 0) (hi := 0) HFi.out.fresh).below hb)
            clear hb
            go_wp2_with fail
            exact ⟨⟨i + 1, oi, by omega, by go_num, HFi.out.trans ((HF2.out.none r (r + 29)).alloc _), HRel.out _ (HF2.out.alloc _)⟩, by simp [intOf]; omega⟩
          · rw [h1] at HG
            clear h1
            generalize (x.val i).2 = z at *
            go_wp2_with fail
            go_at_call 59
            refine HG.out.mono ?_
            rintro e w2 ⟨rfl, hb⟩
            have HF2 := Lib.hid ((Fr.refl (lo := 0) (hi := 0) HFi.out.fresh).below hb)
            clear hb
            go_wp2_with fail
            exact ⟨⟨i + 1, oi, by omega, by go_num, HFi.out.trans ((HF2.out.none r (r + 29)).alloc _), HRel.out _ (HF2.out.alloc _)⟩, by simp [intOf]; omega⟩
      · have hin' : ¬ (i : Int) < (x.cells : Int) := by omega
        obtain rfl : i = x.cells := by omega
        clear Fi Ei
        go_wp2_with fail
        go_end0
        exact ⟨rfl, oi, HFi.out, by rw [← clrN_all]; exact HEi.out⟩
end Go.Proofs.YtlpklloagaccoaaGreat
namespace Go.Proofs.YtlpklloagaccoaaGreat
open Go.RowKit
set_option linter.unusedVariables false

theorem xdownO {o : Own} {r p : Nat} {S : EngS} {ps pt pz pp bw bk : Nat} {v : Value} (x : Int) (w : World) (hr : 1 ≤ r) (ho : Owned o w) (E : EngX o w r p S ps pt pz pp bw bk v) :
    Calls Tryz.prog 119 #[.pointer (some ⟨p, 0, none⟩), .int .i64 x] w (UnitX o w r p (downO S x) ps pt pz pp bw bk v) := by
  cases hx : S.ob x with
  | none =>
    have e : downO S x = S := if_neg (by rw [hx]; decide)
    rw [e]
    exact (xdown_no x w ho E hx).mono fun e w' hh => ⟨hh.1, o, hh.2.none r (r + 29), E.keep hh.2 (.inr (Nat.zero_le _))⟩
  | some y =>
    have e : downO S x = downA S x := if_pos (by rw [hx]; rfl)
    rw [e]; exact xdown x y w hr ho E hx
theorem AbsK.gone {K : EngK} {S : EngS} (A : AbsK K S) (h : Int) : AbsK { K with L := shutL K.L, ob := updI K.ob h none } { gone0 S h with tot := updI S.tot h (K.ex h) } := by
  refine ⟨by show shutL S.L = shutL K.L; rw [A.L], fun k => ?_, A.lim, fun k => ?_, A.st, A.Z, A.Pu, A.wat, A.weak, A.pend⟩
  · show updI S.ob h none k = (updI K.ob h none k).map _
    unfold updI
    split
    · rfl
    · exact A.ob k
  · show updI S.tot h (K.ex h) k = cntO (updI K.ob h none k) + K.ex k
    unfold updI
    by_cases e : k = h
    · rw [if_pos e, if_pos e, e]; show K.ex h = 0 + K.ex h; omega
    · rw [if_neg e, if_neg e]; exact A.tot k
theorem updI_comm {α : Type} (f : Int → α) {k j : Int} (h : k ≠ j) (a b : α) : updI (updI f k a) j b = updI (updI f j b) k a := by
  funext i
  unfold updI
  by_cases e1 : i = j
  · rw [if_pos e1, if_neg (fun e => h (e.symm.trans e1)), if_pos e1]
  · by_cases e2 : i = k
    · rw [if_neg e1, if_pos e2, if_pos e2]
    · rw [if_neg e1, if_neg e2, if_neg e2, if_neg e1]
theorem downO_tot {S : EngS} {h : Int} (t : Int) (hd : S.ob h = none) (x : Int) : downO { S with tot := updI S.tot h t } x = { downO S x with tot := updI (downO S x).tot h t } := by
  unfold downO
  by_cases hs : (S.ob x).isSome = true
  · have hne : h ≠ x := fun e => by rw [← e, hd] at hs; cases hs
    have htx : updI S.tot h t x = S.tot x := if_neg (fun e => hne e.symm)
    rw [if_pos hs, if_pos hs]
    show ({ S with tot := updI (updI S.tot h t) x _, Z := _, Pu := _ } : EngS) = { S with tot := updI (updI S.tot x _) h t, Z := _, Pu := _ }
    simp only [htx]
    rw [updI_comm S.tot hne]
    rfl
  · rw [if_neg hs, if_neg hs]
theorem downsA_tot {h : Int} (t : Int) : ∀ (l : List Int) (S : EngS), S.ob h = none → downsA { S with tot := updI S.tot h t } l = { downsA S l with tot := updI (downsA S l).tot h t }
  | [], S, _ => rfl
  | x :: l, S, hd => by
    have e : downsA { S with tot := updI S.tot h t } (x :: l) = downsA (downO { S with tot := updI S.tot h t } x) l := rfl
    rw [e, downO_tot t hd x, downsA_tot t l (downO S x) (by rw [(downO_same S x).ob]; exact hd)]
    rfl
theorem downsA_succ (S : EngS) (l : List Int) {i : Nat} (hi : i < l.length) : downsA S (l.take (i + 1)) = downO (downsA S (l.take i)) (l.getD i 0) := by
  rw [take_succ_getD hi]
  unfold downsA
  rw [List.foldl_append]
  rfl
/-- Of some weak objects what refers to one that goes is no more. -/
def clrL (ob : Int → Option Ob) (l : List Int) (h : Int) : Int → Option Ob := fun k => if k ∈ l then (ob k).map (fun x => clrX x h) else ob k
theorem clrL_nil (ob : Int → Option Ob) (h : Int) : clrL ob [] h = ob := by funext k; exact if_neg (by simp)
theorem clrL_succ (ob : Int → Option Ob) (l : List Int) (h : Int) {k : Int} (hk : k ∉ l) : updI (clrL ob l h) k ((clrL ob l h k).map fun x => clrX x h) = clrL ob (l ++ [k]) h := by
  funext j
  unfold updI clrL
  by_cases e : j = k
  · subst e; rw [if_pos rfl, if_neg hk, if_pos (by simp)]
  · rw [if_neg e]
    by_cases hj : j ∈ l
    · rw [if_pos hj, if_pos (by simp [hj])]
    · rw [if_neg hj, if_neg (by simp [hj, e])]
theorem isf_call {o : Own} {w : World} {B : Nat} {h x : Int} (hB : Blk o w 0 B (.cells #[.int .i64 h] 3 (0, 0))) :
    Calls Tryz.prog 132 #[.int .i64 x, .pointer (some ⟨B, 0, none⟩)] w fun e w' => e = .returned (.bool (x == h)) ∧ w = w' := by
  have c0 := hB.cell 0
  simp only [List.getElem?_toArray, List.getElem?_cons_zero] at c0
  clear hB
  go_enter Tryz.func132, Tryz.ntmps132
  go_wp2_with fail
  go_ret
  exact ⟨rfl, rfl⟩
theorem isf_pred {rs B : Nat} {h : Int} (xs : List Int) (hrs : 0 < rs) : PredR 132 #[.pointer (some ⟨B, 0, none⟩)] (fun x => x == h) xs 0 0 rs (fun _ o w => Blk o w 0 B (.cells #[.int .i64 h] 3 (0, 0))) where
  call := fun i hi o w ho hR => (show Calls Tryz.prog 132 #[.int .i64 (xs.getD i 0), .pointer (some ⟨B, 0, none⟩)] w _ from (isf_call hR).mono fun e w' hh => ⟨hh.1, o, by rw [← hh.2]; exact Fr.refl ho, by rw [← hh.2]; exact hR⟩)
  keep := fun i o o' w w' hR F => hR.keep F (.inl hrs)
  drew := fun i o w hR => hR.of_eq rfl
  enters := enters_of Tryz.func132 (by kernel_rfl) rfl
  apart := .inr (Nat.zero_le _)
/-- Where an engine lies whose state is S, from a first world on. -/
structure FrX (o : Own) (w : World) (r p ps pt pz pp bw bk : Nat) (v : Value) (B : Nat) (h : Int) (S : EngS) (o' : Own) (w' : World) : Prop where
  fr : Fr r (r + 29) o o' w w'
  eng : EngX o' w' r p S ps pt pz pp bw bk v
  box : Blk o' w' 0 B (.cells #[.int .i64 h] 3 (0, 0))
section
variable {o o1 o2 : Own} {w w1 w2 : World} {r p ps pt pz pp bw bk B : Nat} {v : Value} {h : Int} {S T : EngS}
theorem FrX.below (X : FrX o w r p ps pt pz pp bw bk v B h S o1 w1) (F : Fr 0 0 o1 o1 w1 w2) : FrX o w r p ps pt pz pp bw bk v B h S o1 w2 :=
  ⟨X.fr.trans (F.none r (r + 29)), X.eng.keep F (.inr (Nat.zero_le _)), X.box.keep F (.inr (Nat.zero_le _))⟩
theorem FrX.next (X : FrX o w r p ps pt pz pp bw bk v B h S o1 w1) (hr : 1 ≤ r) (F : Fr r (r + 29) o1 o2 w1 w2) (E : EngX o2 w2 r p T ps pt pz pp bw bk v) : FrX o w r p ps pt pz pp bw bk v B h T o2 w2 :=
  ⟨X.fr.trans F, E, X.box.keep F (.inl hr)⟩
theorem FrX.boxc (X : FrX o w r p ps pt pz pp bw bk v B h S o1 w1) : w1.cell? ⟨B, 0, none⟩ = some (.int .i64 h) := by
  have := X.box.cell 0; simpa using this
theorem FrX.boxl (X : FrX o w r p ps pt pz pp bw bk v B h S o1 w1) : B < w1.heap.size := X.box.lt
end
theorem EngX.blk {o : Own} {w : World} {r p : Nat} {S : EngS} {ps pt pz pp bw bk : Nat} {v : Value} (E : EngX o w r p S ps pt pz pp bw bk v) : Blk o w r p (.cells #[.pointer (some ⟨ps, 0, none⟩), .pointer (some ⟨pt, 0, none⟩), .pointer (some ⟨pz, 0, none⟩), .pointer (some ⟨pp, 0, none⟩), .map (some bw), .map (some bk), v] 102 (0, 0)) := let ⟨K, E, A⟩ := E; E.blk
theorem EngX.cells {o : Own} {w : World} {r p : Nat} {S : EngS} {ps pt pz pp bw bk : Nat} {v : Value} (E : EngX o w r p S ps pt pz pp bw bk v) : w.cell? ⟨p, 0, none⟩ = some (.pointer (some ⟨ps, 0, none⟩)) ∧ w.cell? ⟨p, 1, none⟩ = some (.pointer (some ⟨pt, 0, none⟩)) ∧ w.cell? ⟨p, 2, none⟩ = some (.pointer (some ⟨pz, 0, none⟩)) ∧ w.cell? ⟨p, 3, none⟩ = some (.pointer (some ⟨pp, 0, none⟩)) ∧ w.cell? ⟨p, 4, none⟩ = some (.map (some bw)) ∧ w.cell? ⟨p, 5, none⟩ = some (.map (some bk)) ∧ w.cell? ⟨p, 6, none⟩ = some v ∧ w.frozen? ⟨p, 6, none⟩ = false ∧ p < w.heap.size :=
  ⟨E.blk.cell 0, E.blk.cell 1, E.blk.cell 2, E.blk.cell 3, E.blk.cell 4, E.blk.cell 5, E.blk.cell 6, E.blk.free 6, E.blk.lt⟩
theorem EngX.weakIs {o : Own} {w : World} {r p : Nat} {S : EngS} {ps pt pz pp bw bk : Nat} {v : Value} (E : EngX o w r p S ps pt pz pp bw bk v) : MapIs w bk (setMap S.weak) := let ⟨K, E, A⟩ := E; by rw [A.weak]; exact E.weak.2
theorem EngX.watIs {o : Own} {w : World} {r p : Nat} {S : EngS} {ps pt pz pp bw bk : Nat} {v : Value} (E : EngX o w r p S ps pt pz pp bw bk v) : MapIs w bw (setMap S.wat) := let ⟨K, E, A⟩ := E; by rw [A.wat]; exact E.wat.2
theorem EngX.weakDel {o : Own} {w w' : World} {r p : Nat} {S : EngS} {ps pt pz pp bw bk : Nat} {v : Value} (E : EngX o w r p S ps pt pz pp bw bk v) (ho : Owned o w) (h : Int) (hm : MapIs w' bk (fun j => if j = h then none else setMap S.weak j)) (ht : MapTurn w w' bk) :
    Fr r (r + 29) o o w w' ∧ EngX o w' r p { S with weak := updS S.weak h false } ps pt pz pp bw bk v := by
  obtain ⟨K, E, A⟩ := E
  obtain ⟨F, E2⟩ := E.weakT ho ht (hm.congr fun k => setMap_del S.weak h k)
  exact ⟨F, _, E2, A.L, A.ob, A.lim, A.tot, A.st, A.Z, A.Pu, A.wat, rfl, A.pend⟩
theorem EngX.watDel {o : Own} {w w' : World} {r p : Nat} {S : EngS} {ps pt pz pp bw bk : Nat} {v : Value} (E : EngX o w r p S ps pt pz pp bw bk v) (ho : Owned o w) (h : Int) (hm : MapIs w' bw (fun j => if j = h then none else setMap S.wat j)) (ht : MapTurn w w' bw) :
    Fr r (r + 29) o o w w' ∧ EngX o w' r p { S with wat := updS S.wat h false } ps pt pz pp bw bk v := by
  obtain ⟨K, E, A⟩ := E
  obtain ⟨F, E2⟩ := E.watT ho ht (hm.congr fun k => setMap_del S.wat h k)
  exact ⟨F, _, E2, A.L, A.ob, A.lim, A.tot, A.st, A.Z, A.Pu, rfl, A.weak, A.pend⟩
section
variable {o o1 : Own} {w w1 : World} {r p ps pt pz pp bw bk B : Nat} {v : Value} {h : Int} {S : EngS}
def FxPost (o : Own) (w : World) (r p ps pt pz pp bw bk : Nat) (v : Value) (B : Nat) (h : Int) (S : EngS) (u : Value) (o1 : Own) (w1 : World) (e : Ending) (w' : World) : Prop := e = .returned u ∧ ∃ o', FrX o w r p ps pt pz pp bw bk v B h S o' w' ∧ Fr r (r + 29) o1 o' w1 w'
theorem fx_drop (X : FrX o w r p ps pt pz pp bw bk v B h S o1 w1) (hr : 1 ≤ r) {x : Ob} (hx : S.ob h = some x) :
    Calls Tryz.prog 63 #[.pointer (some ⟨ps, 0, none⟩), .int .i64 h] w1 fun e w' => ∃ t, FxPost o w r p ps pt pz pp bw bk v B h { gone0 S h with tot := updI S.tot h t } (.int .i64 0) o1 w1 e w' := by
  obtain ⟨K, E, A⟩ := X.eng
  obtain ⟨y, hy, _, _⟩ := A.of_some hx
  refine (odrop_yes h y w1 X.fr.fresh E.sp hy).mono fun e w' hh => ?_
  obtain ⟨h1, o', F, S'⟩ := hh
  exact ⟨K.ex h, h1, o', X.next hr (F.mono (by omega) (by omega)) ⟨_, E.space F S', A.gone h⟩, F.mono (by omega) (by omega)⟩
theorem fx_down (X : FrX o w r p ps pt pz pp bw bk v B h S o1 w1) (hr : 1 ≤ r) (x : Int) :
    Calls Tryz.prog 119 #[.pointer (some ⟨p, 0, none⟩), .int .i64 x] w1 (FxPost o w r p ps pt pz pp bw bk v B h (downO S x) (.tuple #[]) o1 w1) :=
  (xdownO x w1 hr X.fr.fresh X.eng).mono fun e w' hh => let ⟨h1, o', F, E⟩ := hh; ⟨h1, o', X.next hr F E, F⟩
theorem fx_forget (X : FrX o w r p ps pt pz pp bw bk v B h S o1 w1) (hr : 1 ≤ r) (k : Int) :
    Calls Tryz.prog 128 #[.pointer (some ⟨p, 0, none⟩), .int .i64 k, .int .i64 h] w1 (FxPost o w r p ps pt pz pp bw bk v B h (putObA S k ((S.ob k).map fun x => clrX x h)) (.tuple #[]) o1 w1) :=
  (xforget k h w1 hr X.fr.fresh X.eng).mono fun e w' hh => let ⟨h1, o', F, E⟩ := hh; ⟨h1, o', X.next hr F E, F⟩
theorem fx_zdrop (X : FrX o w r p ps pt pz pp bw bk v B h S o1 w1) (hr : 1 ≤ r) (k0 : 0 ≤ h) (k1 : h < KB) :
    Calls Tryz.prog 129 #[.pointer (some ⟨pz, 0, none⟩), .int .i64 h] w1 fun e w' => ∃ b, FxPost o w r p ps pt pz pp bw bk v B h { S with Z := updS S.Z h false } (.bool b) o1 w1 e w' := by
  obtain ⟨K, E, A⟩ := X.eng
  refine (drop_any h w1 X.fr.fresh E.zeros k0 k1).mono fun e w' hh => ?_
  obtain ⟨h1, o', F, L⟩ := hh
  exact ⟨_, h1, o', X.next hr (F.mono (by omega) (by omega)) ⟨_, E.zerosT F L, A.L, A.ob, A.lim, A.tot, A.st, by show updS S.Z h false = updS K.Z h false; rw [A.Z], A.Pu, A.wat, A.weak, A.pend⟩, F.mono (by omega) (by omega)⟩
theorem fx_pdrop (X : FrX o w r p ps pt pz pp bw bk v B h S o1 w1) (hr : 1 ≤ r) (k0 : 0 ≤ h) (k1 : h < KB) :
    Calls Tryz.prog 129 #[.pointer (some ⟨pp, 0, none⟩), .int .i64 h] w1 fun e w' => ∃ b, FxPost o w r p ps pt pz pp bw bk v B h { S with Pu := updS S.Pu h false } (.bool b) o1 w1 e w' := by
  obtain ⟨K, E, A⟩ := X.eng
  refine (drop_any h w1 X.fr.fresh E.purple k0 k1).mono fun e w' hh => ?_
  obtain ⟨h1, o', F, L⟩ := hh
  exact ⟨_, h1, o', X.next hr (F.mono (by omega) (by omega)) ⟨_, E.purpleT F L, A.L, A.ob, A.lim, A.tot, A.st, A.Z, by show updS S.Pu h false = updS K.Pu h false; rw [A.Pu], A.wat, A.weak, A.pend⟩, F.mono (by omega) (by omega)⟩
theorem fx_sforget (X : FrX o w r p ps pt pz pp bw bk v B h S o1 w1) (hr : 1 ≤ r) (hd : S.ob h = none) :
    Calls Tryz.prog 130 #[.pointer (some ⟨pt, 0, none⟩), .int .i64 h] w1 (FxPost o w r p ps pt pz pp bw bk v B h { S with tot := updI S.tot h 0, st := updB S.st h false } (.tuple #[]) o1 w1) := by
  obtain ⟨K, E, A⟩ := X.eng
  have hk := A.of_none hd
  refine (spill_forget h w1 X.fr.fresh E.spill).mono fun e w' hh => ?_
  obtain ⟨h1, F, L⟩ := hh
  refine ⟨h1, o1, X.next hr (F.mono (by omega) (by omega)) ⟨_, E.spillT F L, A.L, A.ob, A.lim, fun k => ?_, by show updB S.st h false = updB K.st h false; rw [A.st], A.Z, A.Pu, A.wat, A.weak, A.pend⟩, F.mono (by omega) (by omega)⟩
  show updI S.tot h 0 k = cntO (K.ob k) + upd K.ex h 0 k
  unfold updI upd
  by_cases e : k = h
  · rw [if_pos e, if_pos e, e, hk]; rfl
  · rw [if_neg e, if_neg e]; exact A.tot k
theorem fx_sorted (X : FrX o w r p ps pt pz pp bw bk v B h S o1 w1) :
    Calls Tryz.prog 126 #[.func (.func 180) #[] #[.pointer (some ⟨w1.heap.size, 0, none⟩)]] (w1.alloc (.cells #[.map (some bk)] 100)) (SortedPost o1 w1 (setMap S.weak)) := sortedB_call X.fr.fresh X.eng.weakIs
theorem fx_delf (X : FrX o w r p ps pt pz pp bw bk v B h S o1 w1) (hr : 1 ≤ r) (hl : S.pend.length ≤ 1048576) :
    Calls Tryz.prog 131 #[v, .func (.func 132) #[] #[.pointer (some ⟨B, 0, none⟩)]] w1 fun e w' => ∃ (v' : Value) (o2 : Own) (A' : Option Addr) (n' cap' : Nat), v' = .slice A' n' cap' ∧ e = .returned v' ∧ w'.cell? ⟨p, 6, none⟩ = some v ∧ w'.frozen? ⟨p, 6, none⟩ = false ∧ p < w'.heap.size ∧ Fr r (r + 29) o1 o2 w1 (w'.setCell ⟨p, 6, none⟩ v') ∧ EngX o2 (w'.setCell ⟨p, 6, none⟩ v') r p { S with pend := S.pend.filter fun x => !(x == h) } ps pt pz pp bw bk v' := by
  obtain ⟨K, E, A⟩ := X.eng
  have hL : LRow o1 w1 (r + 28) v S.pend := by rw [A.pend]; exact ⟨E.pend, E.pown⟩
  refine (delete_func (isf_pred S.pend (rs := r + 28) (B := B) (h := h) (by omega)) v (r + 28) (r + 29) (fun _ _ _ _ F => F.none _ _) ⟨by omega, by omega⟩ X.fr.fresh hL X.box hl).mono fun e w' hh => ?_
  obtain ⟨o2, v', h1, F, L2, _⟩ := hh
  have hB := E.blk.keep F (by omega)
  obtain ⟨F2, E2⟩ := E.pendT F L2
  obtain ⟨A', cap', hv', _⟩ := L2.rd
  exact ⟨v', o2, A', _, cap', hv', h1, hB.cell 6, hB.free 6, hB.lt, F2, _, E2, A.L, A.ob, A.lim, A.tot, A.st, A.Z, A.Pu, A.wat, A.weak, rfl⟩
end
set_option maxRecDepth 100000 in
set_option maxHeartbeats 4000000 in
theorem rfree {o : Own} {r p : Nat} {S : EngS} (h : Int) (x : Ob) (w : World) (hr : 1 ≤ r) (ho : Owned o w) (E : EngRep o w r p S) (hx : S.ob h = some x) (hpl : S.pend.length ≤ 1048576) :
    Calls Tryz.prog 81 #[.pointer (some ⟨p, 0, none⟩), .int .i64 h] w (EngDo o w r p (freeA S h) (.int .i64 0)) := by
  obtain ⟨ps, pt, pz, pp, bw, bk, v, E⟩ := E
  have HX0 := Lib.hid (show FrX o w r p ps pt pz pp bw bk v w.heap.size h S o (w.alloc (.cells #[.int .i64 h] 3)) from
    ⟨(Fr.refl ho).alloc _, E.keep (lo := 0) (hi := 0) ((Fr.refl ho).alloc _) (.inr (Nat.zero_le _)), ho _ (Nat.le_refl _), heap_alloc_new w _⟩)
  have HR := Lib.hid hr
  have HXo := Lib.hid hx
  have HPl := Lib.hid hpl
  obtain ⟨k0, k1⟩ : 0 ≤ h ∧ h < KB := by
    obtain ⟨K, E, A⟩ := E
    obtain ⟨y, hy, _, _⟩ := A.of_some hx
    have := E.sp.hrange hy
    unfold KB
    omega
  have HK01 := Lib.hid (And.intro k0 k1)
  have hln : ((refsA S h).length : Int) ≤ 4000 := by
    have h1 := cellsA_le E.rep h
    have h2 : (refsA S h).length ≤ cellsA S h := by
      unfold refsA
      split
      · exact Nat.zero_le _
      · rw [hx, cellsA_of hx]; exact refsN_len x.val x.cells
    omega
  clear E ho hx hpl hr k0 k1
  go_enter Tryz.func81, Tryz.ntmps81
  go_wp2_with fail
  generalize w.alloc (.cells #[.int .i64 h] 3) = w0 at *
  generalize w.heap.size = B at *
  go_at_call 38
  refine (rrefs h w0 HR.out HX0.out.fr.fresh HX0.out.eng.rep).mono ?_
  rintro e w1 ⟨vr, rfl, F1, R1⟩
  have HX1 := Lib.hid (HX0.out.below F1)
  obtain ⟨Ar, capr, hvr, _⟩ := R1.row.rd
  subst hvr
  have HL1 := Lib.hid R1.row
  clear F1 R1
  obtain ⟨c0, _, _, _, _, _, _, _, hpl⟩ := HX1.out.eng.cells
  have cb := HX1.out.boxc
  have hbl := HX1.out.boxl
  have HDr := Lib.hid (fun (w5 : World) (X : FrX o w r p ps pt pz pp bw bk v B h S o w5) => fx_drop X HR.out HXo.out)
  go_wp2_with fail
  go_still_tail 5, (by kernel_rfl)
  change wpList _ _ _ _ _ w1.drew
  have HX1d := Lib.hid (HX1.out.below ((Fr.refl (lo := 0) (hi := 0) HX1.out.fr.fresh).drew))
  have HL1d := Lib.hid (HL1.out.keep (lo := 0) (hi := 0) ((Fr.refl HX1.out.fr.fresh).drew) (.inr (Nat.zero_le _)))
  generalize w1.drew = w1d at *
  go_wp2_with fail
  go_at_call 63
  refine (fx_drop HX1d.out HR.out HXo.out).mono ?_
  rintro e w2 ⟨t, rfl, o2, X2, F2⟩
  have HX2 := Lib.hid X2
  have HL2 := Lib.hid (HL1d.out.keep F2 (.inl HR.out))
  clear X2 F2
  go_wp2_with fail
  go_loopw [25] (fun iv wr => ∃ (i : Nat) (o' : Own), i ≤ (refsA S h).length ∧ iv = .int .i64 i ∧ FrX o w r p ps pt pz pp bw bk v B h (downsA { gone0 S h with tot := updI S.tot h t } ((refsA S h).take i)) o' wr ∧ LRow o' wr 0 (.slice Ar (refsA S h).length capr) (refsA S h)) (fun iv _ => (refsA S h).length - (intOf iv).toNat)
  case atStart => exact ⟨0, o2, by omega, rfl, HX2.out, HL2.out⟩
  case round =>
    obtain ⟨i, oi, hi, rfl, Xi, Li⟩ := hrel
    have HXi := Lib.hid Xi
    have HLi := Lib.hid Li
    by_cases hin : i < (refsA S h).length
    · have hin' : (i : Int) < (((refsA S h).length : Nat) : Int) := by omega
      obtain ⟨gb, rfl, hgl, hc, hfz, hle⟩ := Li.at_ hin
      have HS := Lib.hid (downsA_succ { gone0 S h with tot := updI S.tot h t } (refsA S h) hin)
      clear Xi Li hfz hle
      generalize (refsA S h).getD i 0 = y at *
      have HDn := Lib.hid (fun (w5 : World) (X : FrX o w r p ps pt pz pp bw bk v B h (downsA { gone0 S h with tot := updI S.tot h t } ((refsA S h).take i)) oi w5) => fx_down X HR.out y)
      go_wp2_with fail
      go_at_call 119
      refine (HDn.out _ HXi.out).mono ?_
      rintro e w3 ⟨rfl, o3, X3, F3⟩
      rw [← HS.out] at X3
      have HX3 := Lib.hid X3
      have HL3 := Lib.hid (HLi.out.keep F3 (.inl HR.out))
      clear X3 F3
      go_wp2_with fail
      exact ⟨⟨i + 1, o3, by omega, by go_num, HX3.out, HL3.out⟩, by simp [intOf]; omega⟩
    · have hin' : ¬ (i : Int) < (((refsA S h).length : Nat) : Int) := by omega
      obtain rfl : i = (refsA S h).length := by omega
      rw [List.take_length] at HXi
      obtain ⟨T, hT⟩ : ∃ T, T = downsA (gone0 S h) (refsA S h) := ⟨_, rfl⟩
      have hTT : downsA { gone0 S h with tot := updI S.tot h t } (refsA S h) = { T with tot := updI T.tot h t } := by rw [hT]; exact downsA_tot t (refsA S h) (gone0 S h) (if_pos rfl)
      rw [hTT] at HXi
      have HDead := Lib.hid (show T.ob h = none by rw [hT, (downsA_same (refsA S h) (gone0 S h)).ob]; exact if_pos rfl)
      have HTe := Lib.hid hT
      clear hT hTT
      clear Xi Li
      obtain ⟨_, _, _, _, _, c5, _, _, hpl5⟩ := HXi.out.eng.cells
      have cb5 := HXi.out.boxc
      have hbl5 := HXi.out.boxl
      go_wp2_with fail
      go_still_tail 5, (by kernel_rfl)
      change wpList _ _ _ _ _ wr.drew
      have HXd := Lib.hid (HXi.out.below ((Fr.refl (lo := 0) (hi := 0) HXi.out.fr.fresh).drew))
      clear c5 hpl5 cb5 hbl5
      generalize wr.drew = w5 at *
      go_wp2_with (at_delete; refine wpList_delete_is _ rfl _ _ 100 3 rfl 4 Tryz.underlying100 Tryz.underlying3 bk _ (by exact HXd.out.eng.weakIs) rfl h rfl ?_; intro w6 hm6 ht6; have hd6 := HXd.out.eng.weakDel HXd.out.fr.fresh h hm6 ht6; have HX6 := Lib.hid (HXd.out.next HR.out hd6.1 hd6.2); obtain ⟨_, _, _, _, _, c56, _, _, hpl6⟩ := hd6.2.cells; clear hm6 ht6 hd6)
      go_at_call 127
      refine (keysB_call bk w6).mono ?_
      rintro e w7 ⟨rfl, rfl⟩
      go_wp2_with fail
      go_at_call 126
      refine (fx_sorted HX6.out).mono ?_
      rintro e w7 ⟨vk, ks, rfl, hK, F7, R7⟩
      have HX7 := Lib.hid (HX6.out.below F7)
      have HKs := Lib.hid hK
      obtain ⟨Ak, capk, hvk, _⟩ := R7.row.rd
      subst hvk
      have HK7 := Lib.hid R7.row
      have hkl : (ks.length : Int) ≤ 1048576 := by have := hK.len; omega
      clear hK F7 R7 c56 hpl6
      go_wp2_with fail
      go_loopw [45] (fun iv wr => ∃ (i : Nat) (o' : Own), i ≤ ks.length ∧ iv = .int .i64 i ∧ FrX o w r p ps pt pz pp bw bk v B h { T with ob := clrL T.ob (ks.take i) h, tot := updI T.tot h t, weak := updS T.weak h false } o' wr ∧ LRow o' wr 0 (.slice Ak ks.length capk) ks) (fun iv _ => ks.length - (intOf iv).toNat)
      case atStart => exact ⟨0, oi, by omega, rfl, by rw [List.take_zero, clrL_nil]; exact HX7.out, HK7.out⟩
      case round =>
        obtain ⟨i, oj, hi, rfl, Xi, Li⟩ := hrel
        have HXj := Lib.hid Xi
        have HLj := Lib.hid Li
        by_cases hik : i < ks.length
        · have hik' : (i : Int) < ((ks.length : Nat) : Int) := by omega
          obtain ⟨gb, rfl, hgl, hc, hfz, hle⟩ := Li.at_ hik
          have hni : ks.getD i 0 ∉ ks.take i := by
            intro hm
            obtain ⟨j, hj, e⟩ := List.getElem_of_mem hm
            rw [List.length_take] at hj
            rw [List.getElem_take] at e
            have hp := HKs.out.sorted
            rw [List.pairwise_iff_getElem] at hp
            have := hp j i (by omega) hik (by omega)
            rw [e] at this
            simp [List.getD, hik] at this
          have HS := Lib.hid (show updI (clrL T.ob (ks.take i) h) (ks.getD i 0) ((clrL T.ob (ks.take i) h (ks.getD i 0)).map fun x => clrX x h) = clrL T.ob (ks.take (i + 1)) h by rw [take_succ_getD hik]; exact clrL_succ _ _ _ hni)
          have HB5 := HXj.out.boxc
          have HBl := HXj.out.boxl
          clear Xi Li hfz hle hni
          generalize ks.getD i 0 = y at *
          have HFg := Lib.hid (fun (w5 : World) (X : FrX o w r p ps pt pz pp bw bk v B h { T with ob := clrL T.ob (ks.take i) h, tot := updI T.tot h t, weak := updS T.weak h false } oj w5) => fx_forget X HR.out y)
          go_wp2_with fail
          go_at_call 128
          refine (HFg.out _ HXj.out).mono ?_
          rintro e w3 ⟨rfl, o3, X3, F3⟩
          have HX3 := Lib.hid (show FrX o w r p ps pt pz pp bw bk v B h { T with ob := clrL T.ob (ks.take (i + 1)) h, tot := updI T.tot h t, weak := updS T.weak h false } o3 w3 from by rw [← HS.out]; exact X3)
          have HL3 := Lib.hid (HLj.out.keep F3 (.inl HR.out))
          clear X3 F3
          go_wp2_with fail
          exact ⟨⟨i + 1, o3, by omega, by go_num, HX3.out, HL3.out⟩, by simp [intOf]; omega⟩
        · have hik' : ¬ (i : Int) < ((ks.length : Nat) : Int) := by omega
          obtain rfl : i = ks.length := by omega
          rw [List.take_length] at HXj
          clear Xi Li hik hi
          obtain ⟨_, _, cc, _, _, _, _, _, hpp⟩ := HXj.out.eng.cells
          have cb := HXj.out.boxc
          have hbl := HXj.out.boxl
          go_wp2_with fail
          go_still_tail 5, (by kernel_rfl)
          change wpList _ _ _ _ _ wr.drew
          have HXjd := Lib.hid (HXj.out.below ((Fr.refl (lo := 0) (hi := 0) HXj.out.fr.fresh).drew))
          clear cc hpp cb hbl
          generalize wr.drew = w8 at *
          go_wp2_with fail
          go_at_call 129
          refine (fx_zdrop HXjd.out HR.out HK01.out.1 HK01.out.2).mono ?_
          rintro e w9 ⟨b9, rfl, o9, X9, _⟩
          have HXa := Lib.hid X9
          clear X9
          obtain ⟨_, _, _, cc, _, _, _, _, hpp⟩ := HXa.out.eng.cells
          have cb := HXa.out.boxc
          have hbl := HXa.out.boxl
          go_wp2_with fail
          go_still_tail 5, (by kernel_rfl)
          change wpList _ _ _ _ _ w9.drew
          have HXad := Lib.hid (HXa.out.below ((Fr.refl (lo := 0) (hi := 0) HXa.out.fr.fresh).drew))
          clear cc hpp cb hbl
          generalize w9.drew = w10 at *
          go_wp2_with fail
          go_at_call 129
          refine (fx_pdrop HXad.out HR.out HK01.out.1 HK01.out.2).mono ?_
          rintro e w11 ⟨b11, rfl, o11, X11, _⟩
          have HXb := Lib.hid X11
          clear X11
          obtain ⟨_, cc, _, _, _, _, _, _, hpp⟩ := HXb.out.eng.cells
          have cb := HXb.out.boxc
          have hbl := HXb.out.boxl
          go_wp2_with fail
          go_still_tail 5, (by kernel_rfl)
          change wpList _ _ _ _ _ w11.drew
          have HXbd := Lib.hid (HXb.out.below ((Fr.refl (lo := 0) (hi := 0) HXb.out.fr.fresh).drew))
          clear cc hpp cb hbl
          generalize w11.drew = w12 at *
          go_wp2_with fail
          go_at_call 130
          refine (fx_sforget HXbd.out HR.out (by show clrL T.ob ks h h = none; unfold clrL; rw [HDead.out]; split <;> rfl)).mono ?_
          rintro e w13 ⟨rfl, o13, X13, _⟩
          have HXc := Lib.hid X13
          clear X13
          obtain ⟨_, _, _, _, cc, _, _, _, hpp⟩ := HXc.out.eng.cells
          have cb := HXc.out.boxc
          have hbl := HXc.out.boxl
          go_wp2_with fail
          go_still_tail 5, (by kernel_rfl)
          change wpList _ _ _ _ _ w13.drew
          have HXcd := Lib.hid (HXc.out.below ((Fr.refl (lo := 0) (hi := 0) HXc.out.fr.fresh).drew))
          clear cc hpp cb hbl
          generalize w13.drew = w14 at *
          go_wp2_with (at_delete; refine wpList_delete_is _ rfl _ _ 100 3 rfl 4 Tryz.underlying100 Tryz.underlying3 bw _ (by exact HXcd.out.eng.watIs) rfl h rfl ?_; intro w15 hm6 ht6; have hd6 := HXcd.out.eng.watDel HXcd.out.fr.fresh h hm6 ht6; have HXe := Lib.hid (HXcd.out.next HR.out hd6.1 hd6.2); obtain ⟨_, _, _, _, _, _, c66, _, hpl6⟩ := hd6.2.cells; have cb6 := HXe.out.boxl; clear hm6 ht6 hd6)
          have hsm := downsA_same (refsA S h) (gone0 S h)
          rw [← HTe.out] at hsm
          have HSm := Lib.hid hsm
          clear hsm
          go_at_call 131
          refine (fx_delf HXe.out HR.out (by show T.pend.length ≤ _; rw [HSm.out.pend]; exact HPl.out)).mono ?_
          rintro e w16 ⟨v', o16, A', n', cap', rfl, rfl, c6, f6, hpl7, F16, E16⟩
          have H16 := Lib.hid (And.intro F16 E16)
          clear F16 E16
          go_wp2_with fail
          go_ret
          refine ⟨rfl, o16, HXe.out.fr.trans H16.out.1, ps, pt, pz, pp, bw, bk, .slice A' n' cap', ?_⟩
          have hfin : freeA S h = { T with ob := clrL T.ob ks h, weak := updS T.weak h false, Z := updS T.Z h false, Pu := updS T.Pu h false, tot := updI (updI T.tot h t) h 0, st := updB T.st h false, wat := updS T.wat h false, pend := T.pend.filter (fun x => !(x == h)) } := by
            unfold freeA
            dsimp only
            rw [← HTe.out, updI_twice]
            congr 1
            funext k
            unfold clrL
            have hm : k ∈ ks ↔ updS S.weak h false k = true := by
              rw [HKs.out.mem k]
              have hw : updS T.weak h false k = updS S.weak h false k := by rw [HSm.out.weak]; rfl
              unfold setMap
              show (∃ v, (if updS T.weak h false k = true then some (Value.bool true) else none) = some v) ↔ _
              rw [hw]
              constructor
              · rintro ⟨u, hu⟩
                by_cases hq : updS S.weak h false k = true
                · exact hq
                · rw [if_neg hq] at hu; cases hu
              · intro hq; exact ⟨_, if_pos hq⟩
            by_cases hq : updS S.weak h false k = true
            · rw [if_pos hq, if_pos (hm.2 hq)]
            · rw [if_neg hq, if_neg (fun z => hq (hm.1 z))]
          rw [hfin]
          exact H16.out.2
end Go.Proofs.YtlpklloagaccoaaGreat
