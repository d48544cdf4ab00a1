/- Slices of bytes that came in: as strings, and as what calls read. No condition. (Also part of XLJoin, which is the small seat's.) -/
import Derived.Test.YtlpklloagaccoaaGreatText2
import Derived.Test.YtlpklloagaccoaaGreatSl
namespace Go.Proofs.YtlpklloagaccoaaGreat
open Go.RowKit
set_option linter.unusedVariables false

theorem strB_size (n : Nat) (f : Nat → Nat) : (strB n f).size = n := by
  unfold strB
  rw [strOfNums_size, bytesL_length]
theorem sameS_self (a : ByteArray) : sameS a a = true := by
  unfold sameS
  exact beq_self_eq_true _
theorem conv_rd {w : World} {B : Nat} {A : Option Addr} {n : Nat} {f : Nat → Nat} (R : RdS w B .u8 A n (bytesL n f)) (cap : Nat) : (convert 42 9 (.slice A n cap)).run Tryz.prog w = .ok (.string (strB n f)) w := by
  by_cases h : 0 < n
  · obtain ⟨b, off, rfl, _, hc⟩ := R.2 h
    exact run_convert_bytes_arg w 42 5 Tryz.underlying42 Tryz.underlying5 b off n cap (bytesL n f) (bytesL_length n f) hc 9 Tryz.underlying9
  · obtain rfl : n = 0 := by omega
    cases A with
    | none => exact run_convert_bytes_nil w 42 5 Tryz.underlying42 Tryz.underlying5 0 cap 9 Tryz.underlying9
    | some x =>
      have hl : (loadCells x 0).run Tryz.prog w = .ok (([] : List Int).map (Value.int .u8)).toArray w := by
        simpa using run_loadCells_list (P := Tryz.prog) w x [] (fun j v hj => by simp at hj)
      rw [run_convert_bytes_string w 42 9 5 (some x) 0 cap Tryz.underlying42 Tryz.underlying5 Tryz.underlying9, run_bytesToString w _ 0 cap [] hl]
      rfl
/-- A slice of bytes that came in. -/
def inF (zs : List Int) (i : Nat) : Nat := (zs.getD i 0).toNat
theorem InSl.bytes {w : World} {a : Option Addr} {n cap : Nat} {zs : List Int} (h : InSl .u8 w a n cap zs) : RdS w w.heap.size .u8 a n (bytesL n (inF (zs.take n))) ∧ (∀ i, i < n → inF (zs.take n) i < 256) ∧ n ≤ cap := by
  obtain ⟨R, hw⟩ := h.rd
  have hb : ∀ i, i < n → 0 ≤ (zs.take n).getD i 0 ∧ (zs.take n).getD i 0 < 256 := fun i hi => wf_u8 (hw i hi)
  refine ⟨⟨bytesL_length _ _, fun h0 => ?_⟩, fun i hi => ?_, ?_⟩
  · obtain ⟨b, off, h1, h2, h3⟩ := R.2 h0
    refine ⟨b, off, h1, h2, fun i hi => ?_⟩
    rw [bytesL_getD _ _ hi, h3 i hi]
    unfold inF
    rw [Int.toNat_of_nonneg (hb i hi).1]
  · have := hb i hi
    unfold inF
    omega
  · rcases h with ⟨_, rfl, _, _⟩ | ⟨_, _, h1, _⟩
    · exact Nat.zero_le _
    · exact h1
theorem BSl.came {w w' : World} {o : Own} {a : Option Addr} {n cap : Nat} {f : Nat → Nat} (R : RdS w w.heap.size .u8 a n (bytesL n f)) (hf : ∀ i, i < n → f i < 256) (hc : n ≤ cap) (F : LF w o w') : BSl o w' (.slice a n cap) n f := by
  refine ⟨a, cap, rfl, hc, hf, ?_⟩
  by_cases h : 0 < n
  · obtain ⟨b, off, h1, h2, h3⟩ := (R.lf F).2 h
    refine .inr ⟨b, off, h1, Nat.lt_of_lt_of_le h2 F.size, .inr ?_, fun i hi => by rw [h3 i hi, bytesL_getD _ _ hi]⟩
    rw [F.own b h2]
    exact if_pos h2
  · exact .inl (by omega)
end Go.Proofs.YtlpklloagaccoaaGreat
