/- What an object's cells refer to (count.Refs). Conditions: the engine is as one that was made. -/
import Derived.Test.YtlpklloagaccoaaGreatRoom
import Derived.Test.YtlpklloagaccoaaGreatSl
import Derived.Outline
namespace Go.Proofs.YtlpklloagaccoaaGreat
open Go.RowKit
set_option linter.unusedVariables false

/-- References among the first cells. -/
def refsN (f : Nat → Nat × Int) : Nat → List Int
  | 0 => []
  | i + 1 => refsN f i ++ (if (f i).1 = 3 then [(f i).2] else [])
theorem refsN_len (f : Nat → Nat × Int) : ∀ i, (refsN f i).length ≤ i
  | 0 => Nat.le_refl _
  | i + 1 => by
    show (refsN f i ++ _).length ≤ i + 1
    rw [List.length_append]
    have := refsN_len f i
    split <;> simp <;> omega
def refsA (S : EngS) (h : Int) : List Int := if S.weak h = true then [] else match S.ob h with | some x => refsN x.val x.cells | none => []
/-- A call that gives a new row of numbers, and leaves all else. -/
def RowPostN (o : Own) (w : World) (xs : List Int) (e : Ending) (w' : World) : Prop := ∃ v, e = .returned v ∧ Fr 0 0 o o w w' ∧ RowNew w o w' v xs
theorem cellsA_le {o : Own} {w : World} {r p : Nat} {S : EngS} (E : EngRep o w r p S) (h : Int) : cellsA S h ≤ 4000 := by
  obtain ⟨ps, pt, pz, pp, bw, bk, v, K, E, A⟩ := E
  unfold cellsA
  cases hx : S.ob h with
  | none => exact Nat.zero_le _
  | some x =>
    obtain ⟨y, hy, e1, _⟩ := A.of_some hx
    have := (E.sp.obok hy).2.1
    rw [e1]; exact this
def RefsRel (o : Own) (w : World) (f : Nat → Nat × Int) (i : Nat) (v : Value) (wr : World) : Prop := Fr 0 0 o o w wr ∧ RowNew w o wr v (refsN f i)
set_option maxRecDepth 100000 in
set_option maxHeartbeats 1000000 in
theorem rrefs {o : Own} {r p : Nat} {S : EngS} (h : Int) (w : World) (hr : 1 ≤ r) (ho : Owned o w) (E : EngRep o w r p S) :
    Calls Tryz.prog 38 #[.pointer (some ⟨p, 0, none⟩), .int .i64 h] w (RowPostN o w (refsA S h)) := by
  have E0 := E
  obtain ⟨ps, pt, pz, pp, bw, bk, v, E⟩ := E
  have c0 := E.p0.1
  have c5 := E.p0.2.1
  have hpl := E.p0.2.2
  have hlk := E.lookW h
  have HO := Lib.hid ho
  by_cases hw : S.weak h = true
  · rw [hw] at hlk
    have HE : Hid (refsA S h = []) := Lib.hid (by unfold refsA; rw [if_pos hw])
    clear E E0 hw
    go_enter Tryz.func38, Tryz.ntmps38
    go_wp2_with fail
    go_ret
    rw [HE.out]
    exact ⟨_, rfl, Fr.refl HO.out, RowNew.nil _ _ _⟩
  · have hw' : S.weak h = false := by simpa using hw
    rw [hw'] at hlk
    have HC := rcells h w ho E0
    have hc4 := cellsA_le E0 h
    obtain ⟨f, n, hE, hcz, hCl⟩ : ∃ (f : Nat → Nat × Int) (n : Nat), refsA S h = refsN f n ∧ cellsA S h = n ∧ ∀ (i : Nat) (hi : i < n) (w1 : World) (F : Fr 0 0 o o w w1), Calls Tryz.prog 59 #[.pointer (some ⟨ps, 0, none⟩), .int .i64 h, .int .i64 (i : Nat)] w1 fun e w' => e = .returned (.tuple #[valV (f i).1 (f i).2, .int .i64 0]) ∧ Below w1.heap.size w1 w' := by
      cases hx : S.ob h with
      | none => exact ⟨fun _ => (0, 0), 0, by unfold refsA; rw [if_neg hw, hx]; rfl, by unfold cellsA; rw [hx], fun i hi => absurd hi (by omega)⟩
      | some x => exact ⟨x.val, x.cells, by unfold refsA; rw [if_neg hw, hx], cellsA_of hx, fun i hi w1 F => (xcell h i x i F.fresh (E.keep F (.inr (Nat.zero_le _))) hx rfl hi)⟩
    rw [hcz] at HC hc4
    have HC := Lib.hid HC
    have HCl := Lib.hid hCl
    have HE := Lib.hid hE
    have HP := Lib.hid (fun (w1 : World) (F : Fr 0 0 o o w w1) => show w1.cell? ⟨p, 0, none⟩ = some (.pointer (some ⟨ps, 0, none⟩)) ∧ p < w1.heap.size from ⟨F.cell0 c0, Nat.lt_of_lt_of_le hpl F.size⟩)
    have hc4' : (n : Int) ≤ 4000 := by omega
    clear E E0 hw hw' hcz hCl hE hc4
    go_enter Tryz.func38, Tryz.ntmps38
    go_wp2_with (go_at_call 32; refine HC.out.mono ?_; rintro e w1 ⟨rfl, hb⟩; have HF1 := Lib.hid ((Fr.refl (lo := 0) (hi := 0) HO.out).below hb); clear hb)
    go_loopw [5, 18] (fun vv iv wr => ∃ i : Nat, i ≤ n ∧ iv = .int .i64 i ∧ RefsRel o w f i vv wr) (fun _ iv _ => n - (intOf iv).toNat)
    case atStart => exact ⟨0, by omega, rfl, HF1.out, RowNew.nil _ _ _⟩
    case round =>
      obtain ⟨i, hi, rfl, Fi, Ri⟩ := hrel
      have hln := refsN_len f i
      by_cases hin : i < n
      · have hin' : (i : Int) < (n : Int) := by omega
        obtain ⟨c0, hpl⟩ := HP.out _ Fi
        have HFi := Lib.hid Fi
        have HRi := Lib.hid Ri
        have HLn := Lib.hid hln
        have hG := HCl.out i hin _ Fi
        clear Fi Ri hln
        by_cases h3 : (f i).1 = 3
        · rw [h3] at hG
          have HG := Lib.hid hG
          have HS : Hid (refsN f (i + 1) = refsN f i ++ [(f i).2]) := Lib.hid (by show _ ++ _ = _; rw [if_pos h3])
          clear hG h3
          generalize (f i).2 = z at *
          go_wp2_with fail
          go_at_call 59
          refine HG.out.mono ?_
          rintro e w2 ⟨rfl, hb⟩
          have HF2 := Lib.hid (HFi.out.below hb)
          have HR2 := Lib.hid (HRi.out.keep (Fr.of_below (lo := 0) (hi := 0) HFi.out.fresh hb) (.inr rfl))
          clear hb
          go_wp2_with (at_builtin; refine wpList_append_new _ rfl _ _ _ rfl Tryz.underlying38 (w0 := w) (o0 := o) (own := o) (lo := 0) (hi := 0) (by repeat (first | exact HF2.out | refine Fr.drew ?_ | refine Fr.alloc ?_ _)) rfl (HR2.out.keep (lo := 0) (hi := 0) (by repeat (first | exact Fr.refl HF2.out.fresh | refine Fr.drew ?_ | refine Fr.alloc ?_ _)) (.inr rfl)) rfl (RdS.one _ .i64 _ z (by simp)) (by have := HLn.out; omega) ?_; intro v3 w3 F3 R3 G3; have HF3 := Lib.hid F3; have HR3 := Lib.hid R3; clear F3 R3 G3)
          rw [← HS.out] at HR3
          exact ⟨⟨i + 1, by omega, by go_num, HF3.out, HR3.out⟩, by simp [intOf]; omega⟩
        · have HG := Lib.hid hG
          have HS : Hid (refsN f (i + 1) = refsN f i) := Lib.hid (by show _ ++ _ = _; rw [if_neg h3, List.append_nil])
          have h3' : (((f i).1 : Nat) : Int) ≠ 3 := by omega
          clear hG h3
          generalize (f i).2 = z at *
          generalize (f i).1 = q at *
          go_wp2_with fail
          go_at_call 59
          refine HG.out.mono ?_
          rintro e w2 ⟨rfl, hb⟩
          have HF2 := Lib.hid (HFi.out.below hb)
          have HR2 := Lib.hid (HRi.out.keep (Fr.of_below (lo := 0) (hi := 0) HFi.out.fresh hb) (.inr rfl))
          rw [← HS.out] at HR2
          clear hb
          go_wp2_with fail
          exact ⟨⟨i + 1, by omega, by go_num, HF2.out.alloc _, HR2.out.keep (lo := 0) (hi := 0) ((Fr.refl HF2.out.fresh).alloc _) (.inr rfl)⟩, by simp [intOf]; omega⟩
      · have hin' : ¬ (i : Int) < (n : Int) := by omega
        obtain rfl : i = n := by omega
        have HFi := Lib.hid Fi
        have HRi := Lib.hid Ri
        clear Fi Ri
        go_wp2_with fail
        go_ret
        rw [HE.out]
        exact ⟨_, rfl, HFi.out, HRi.out⟩
end Go.Proofs.YtlpklloagaccoaaGreat
