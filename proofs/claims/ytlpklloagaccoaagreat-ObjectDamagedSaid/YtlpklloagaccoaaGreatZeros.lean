/- A set's numbers, rising (least.List; count.Zeros). Conditions: the set, the engine are as ones that were made. -/
import Derived.Test.YtlpklloagaccoaaGreatSorted
import Derived.Test.YtlpklloagaccoaaGreatRoom
import Derived.Outline
namespace Go.Proofs.YtlpklloagaccoaaGreat
open Go.RowKit
set_option linter.unusedVariables false

/-- A set as a rising list. -/
structure SetL (S : Int → Bool) (xs : List Int) : Prop where
  sorted : xs.Pairwise (· < ·)
  mem : ∀ k, k ∈ xs ↔ S k = true
def SetPost (o : Own) (w : World) (S : Int → Bool) (e : Ending) (w' : World) : Prop := ∃ v xs, e = .returned v ∧ SetL S xs ∧ Fr 0 0 o o w w' ∧ RowNew w o w' v xs
theorem filter_take_succ (S : Int → Bool) (ks : List Int) {i : Nat} (hi : i < ks.length) : (ks.take (i + 1)).filter S = (ks.take i).filter S ++ (if S (ks.getD i 0) = true then [ks.getD i 0] else []) := by
  rw [List.take_succ_eq_append_getElem hi, List.filter_append]
  have : ks.getD i 0 = ks[i] := by simp [List.getD, hi]
  rw [this]
  by_cases h : S ks[i] = true
  · rw [if_pos h]; simp [h]
  · rw [if_neg h]; simp [h]
set_option maxRecDepth 100000 in
set_option maxHeartbeats 1000000 in
theorem least_list {o : Own} {r p : Nat} {S : Int → Bool} (w : World) (ho : Owned o w) (L : LeastRep o w r p S) :
    Calls Tryz.prog 120 #[.pointer (some ⟨p, 0, none⟩)] w (SetPost o w S) := by
  obtain ⟨v, xs, b, f, L⟩ := L
  have c1 : w.cell? ⟨p, 1, none⟩ = some (.map (some b)) := L.blk.cell 1
  have hpl := L.blk.lt
  have HK := Lib.hid (fun (w1 : World) => keysB_call b w1)
  have HS := Lib.hid (sortedB_call ho L.map.2)
  have HP := Lib.hid (fun (w1 : World) (F : Fr 0 0 o o w w1) => show w1.cell? ⟨p, 1, none⟩ = some (.map (some b)) ∧ p < w1.heap.size from ⟨F.cell0 c1, Nat.lt_of_lt_of_le hpl F.size⟩)
  have HLk := Lib.hid (fun (w1 : World) (F : Fr 0 0 o o w w1) (k : Int) => show (Instr.lookup 100 (.map (some b)) (.int .i64 k) false).run Tryz.prog w1 = .ok (.bool (S k)) w1 from by
    have := MapIs.lookup (L.map.keep F (.inr (Nat.zero_le _))).2 Tryz.underlying100 Tryz.underlying3 zero_boolL false k
    rw [this]
    simp only [Bool.false_eq_true, if_false]
    rw [L.is k])
  have HI := Lib.hid (show ∀ k, (∃ v, f k = some v) ↔ ((f k).isSome = true) from fun k => by rw [Option.isSome_iff_exists])
  have HIS := Lib.hid L.is
  have HO := Lib.hid ho
  clear L ho
  go_enter Tryz.func120, Tryz.ntmps120
  go_wp2_with fail
  go_at_call 127
  refine (HK.out _).mono ?_
  rintro e w1 ⟨rfl, rfl⟩
  go_wp2_with fail
  go_at_call 126
  refine HS.out.mono ?_
  rintro e w2 ⟨vk, ks, rfl, hK, F2, R2⟩
  have HKK := Lib.hid hK
  have HF2 := Lib.hid F2
  obtain ⟨Ak, capk, hvk, hRk⟩ := R2.row.rd
  have HRk := Lib.hid hRk
  have HKL := Lib.hid hK.len
  subst hvk
  clear hK F2 R2 hRk
  go_wp2_with fail
  go_loopw [3, 13] (fun vv iv wr => ∃ i : Nat, i ≤ ks.length ∧ iv = .int .i64 i ∧ Fr 0 0 o o w2 wr ∧ RowNew w2 o wr vv ((ks.take i).filter S)) (fun _ iv _ => ks.length - (intOf iv).toNat)
  case atStart => exact ⟨0, by omega, rfl, Fr.refl HF2.out.fresh, RowNew.nil _ _ _⟩
  case round =>
    obtain ⟨i, hi, rfl, Fi, Ri⟩ := hrel
    by_cases hin : i < ks.length
    · have hin' : (i : Int) < ((ks.length : Nat) : Int) := by omega
      have hkl : ((ks.length : Nat) : Int) ≤ 1048576 := by have := HKL.out; omega
      obtain ⟨bk, fk, hAk, hbk, hck⟩ := (HRk.out.keep (w' := wr) fun g hg => Fi.block g hg (.inr (Nat.zero_le _))).at_ hin
      have hbk' : bk < wr.heap.size := Nat.lt_of_lt_of_le hbk Fi.size
      obtain ⟨c0, hpl'⟩ := HP.out wr (HF2.out.trans Fi)
      have hlk := HLk.out wr (HF2.out.trans Fi) (ks.getD i 0)
      have HSuc := Lib.hid (filter_take_succ S ks hin)
      have HFi := Lib.hid Fi
      have HRi := Lib.hid Ri
      have hlt : (ks.take i).length ≤ 1048576 := by rw [List.length_take]; have := HKL.out; omega
      have HLt := Lib.hid (Nat.le_trans (List.length_filter_le S (ks.take i)) hlt)
      subst hAk
      clear Fi Ri hi hlt
      by_cases hs : S (ks.getD i 0) = true
      · rw [hs] at hlk
        have HS2 := Lib.hid (show (ks.take (i + 1)).filter S = (ks.take i).filter S ++ [ks.getD i 0] by rw [HSuc.out, if_pos hs])
        clear hs
        generalize ks.getD i 0 = k at *
        go_wp2_with (at_builtin; refine wpList_append_new _ rfl _ _ _ rfl Tryz.underlying38 (w0 := w2) (o0 := o) (own := o) (lo := 0) (hi := 0) (by repeat (first | exact HFi.out | refine Fr.drew ?_ | refine Fr.alloc ?_ _)) rfl (HRi.out.keep (lo := 0) (hi := 0) (by repeat (first | exact Fr.refl HFi.out.fresh | refine Fr.drew ?_ | refine Fr.alloc ?_ _)) (.inr rfl)) rfl (RdS.one _ .i64 _ k (by simp)) (by have := HLt.out; omega) ?_; intro v3 w3 F3 R3 G3; have HF3 := Lib.hid F3; have HR3 := Lib.hid R3; clear F3 R3 G3)
        rw [← HS2.out] at HR3
        exact ⟨⟨i + 1, by omega, by go_num, HF3.out, HR3.out⟩, by simp [intOf]; omega⟩
      · have hs' : S (ks.getD i 0) = false := by simpa using hs
        rw [hs'] at hlk
        have HS2 := Lib.hid (show (ks.take (i + 1)).filter S = (ks.take i).filter S by rw [HSuc.out, if_neg hs, List.append_nil])
        clear hs hs'
        generalize ks.getD i 0 = k at *
        go_wp2_with fail
        have HR3 := HRi.out
        rw [← HS2.out] at HR3
        exact ⟨⟨i + 1, by omega, by go_num, HFi.out, HR3⟩, by simp [intOf]; omega⟩
    · have hin' : ¬ (i : Int) < ((ks.length : Nat) : Int) := by omega
      obtain rfl : i = ks.length := by omega
      have HFi := Lib.hid (HF2.out.trans Fi)
      have HRi := Lib.hid (show RowNew w o wr _ (ks.filter S) from ⟨by have := Ri.row; rw [List.take_length] at this; exact this, fun g hg => Nat.le_trans HF2.out.size (Ri.new g hg)⟩)
      have HSL := Lib.hid (show SetL S (ks.filter S) from ⟨HKK.out.sorted.filter _, fun k => by
        rw [List.mem_filter, HKK.out.mem k, HI.out k]
        constructor
        · exact fun h => h.2
        · intro h
          refine ⟨?_, h⟩
          have := HIS.out k
          rw [h] at this
          cases hf : f k with
          | none => rw [hf] at this; cases this
          | some v => rfl⟩)
      clear Fi Ri hi hin
      go_wp2_with fail
      go_ret
      exact ⟨_, _, rfl, HSL.out, HFi.out, HRi.out⟩
set_option maxRecDepth 100000 in
theorem rzeros {o : Own} {r p : Nat} {S : EngS} (w : World) (ho : Owned o w) (E : EngRep o w r p S) :
    Calls Tryz.prog 69 #[.pointer (some ⟨p, 0, none⟩)] w (SetPost o w S.Z) := by
  obtain ⟨ps, pt, pz, pp, bw, bk, v, K, E, A⟩ := E
  have HL := Lib.hid (show Calls Tryz.prog 120 #[.pointer (some ⟨pz, 0, none⟩)] w (SetPost o w S.Z) from by rw [A.Z]; exact least_list w ho E.zeros)
  have c2 := E.c2
  clear E A ho
  go_enter Tryz.func69, Tryz.ntmps69
  go_wp2_with fail
  go_at_call 120
  refine HL.out.mono ?_
  rintro e w1 ⟨v, xs, rfl, h1, h2, h3⟩
  have H := Lib.hid (And.intro h1 (And.intro h2 h3))
  clear h1 h2 h3
  go_wp2_with fail
  go_ret
  exact ⟨v, xs, rfl, H.out.1, H.out.2.1, H.out.2.2⟩
end Go.Proofs.YtlpklloagaccoaaGreat
