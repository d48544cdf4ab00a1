/- The walk of DictTexts: what it needs beside. No condition. -/
import Derived.Test.YtlpklloagaccoaaGreatDText
import Derived.Test.YtlpklloagaccoaaGreatAll
import Derived.Test.YtlpklloagaccoaaGreatInB
import Derived.StillTailTactics
import Derived.BigQuiet
namespace Go.Proofs.YtlpklloagaccoaaGreat
open Go.RowKit
set_option linter.unusedVariables false

/-- A slice of slices of bytes that came in. -/
def InRs (w : World) (a : Option Addr) (len : Nat) (A : Nat → Option Addr) (L C : Nat → Nat) (Z : Nat → List Int) : Prop :=
  (a = none ∧ len = 0) ∨ ∃ x, a = some x ∧ ∀ r, r < len → w.cell? (x.add r) = some (.slice (A r) (L r) (C r)) ∧ InSl .u8 w (A r) (L r) (C r) (Z r)
/-- A slice of bytes that came in as a row of another slice. -/
theorem InSl.row {w : World} {a : Option Addr} {n cap base : Nat} {zs : List Int} (h : n ≤ cap ∧ cap ≤ maxLen ∧ zs.length = cap ∧ (∀ x ∈ zs, (Lit.int .u8 x).wf = true) ∧ (a = none → cap = 0) ∧ ∀ a', a = some a' → base ≤ a'.block ∧ ∀ c, c < cap → w.cell? (a'.add c) = some (.int .u8 (zs.getD c 0))) : InSl .u8 w a n cap zs := by
  obtain ⟨h1, h2, h3, h4, h5, h6⟩ := h
  cases a with
  | none =>
    obtain rfl := h5 rfl
    exact .inl ⟨rfl, by omega, rfl, List.eq_nil_of_length_eq_zero h3⟩
  | some x => exact .inr ⟨x, rfl, h1, h2, h3, fun i hi => (h6 x rfl).2 i (by omega), h4⟩
theorem InRs.at_ {w : World} {a : Option Addr} {len : Nat} {A : Nat → Option Addr} {L C : Nat → Nat} {Z : Nat → List Int} (h : InRs w a len A L C Z) {r : Nat} (hr : r < len) : ∃ b off, a = some ⟨b, off, none⟩ ∧ b < w.heap.size ∧ w.cell? ⟨b, off + r, none⟩ = some (.slice (A r) (L r) (C r)) ∧ InSl .u8 w (A r) (L r) (C r) (Z r) := by
  rcases h with ⟨_, h⟩ | ⟨x, rfl, hc⟩
  · omega
  · obtain ⟨b, off, spot⟩ := x
    have hc0 := (hc 0 (by omega)).1
    have hspot : spot = none := by simpa [Addr.add] using World.cell?_spot hc0
    subst hspot
    rw [add_spot] at hc0
    refine ⟨b, off, rfl, ?_, by rw [← add_spot]; exact (hc r hr).1, (hc r hr).2⟩
    refine Nat.lt_of_not_le fun hb => ?_
    simp [World.cell?, Array.getElem?_eq_none hb] at hc0
theorem RowS.grown {e : TypeId} {size n : Nat} {w0 w w' : World} {o : Own} {v : Value} {cs : List Value} (R : RowS e size w0 o w v n cs) (ho : Owned o w) (G : w.grownBy w' v.ownBlock) : Fr 0 1 o o w w' :=
  ⟨G.os, G.tape, G.output, G.size, fun b hb hor => G.block b hb (fun e => by have := (R.new b e.symm).2; omega), fun b hb => rfl, fun b hb => ho b (Nat.le_trans G.size hb)⟩
theorem elStr : ElS 9 (.string ByteArray.empty) 1 16 :=
  ⟨info_parts (show (Tryz.prog.info? 9).map (fun i => (i.zero, i.size, i.bytes)) = some (some (.string ByteArray.empty), 1, 16) from by kernel_rfl), by decide, by decide, by decide⟩
/-- A row of strings. -/
theorem RowS.strs {w0 w : World} {o : Own} {v : Value} {ss : List ByteArray} (R : RowS 9 1 w0 o w v ss.length (ss.map .string)) : ∃ (A : Option Addr) (cap : Nat), v = .slice A ss.length cap ∧ ∀ k, k < ss.length → ∃ g, A = some ⟨g, 0, none⟩ ∧ g < w.heap.size ∧ w.cell? ⟨g, k, none⟩ = some (.string (ssAt ss k)) := by
  rcases R.form with ⟨rfl, h0⟩ | ⟨g, cap, rfl, hg, hc⟩
  · exact ⟨none, 0, by rw [h0], fun k hk => by omega⟩
  · refine ⟨_, cap, rfl, fun k hk => ⟨g, rfl, hg, hc k _ ?_⟩⟩
    unfold ssAt
    simp [List.getD, hk]
/-- What is known behind Put: the strings; each once. -/
def hadS (ss : List ByteArray) (t : ByteArray) (k : Nat) : Bool := decide (∃ j, j < k ∧ sameS (ssAt ss j) t = true)
theorem hadS_zero (ss : List ByteArray) (t : ByteArray) : hadS ss t 0 = false := decide_eq_false fun ⟨j, h, _⟩ => absurd h (by omega)
theorem hadS_succ (ss : List ByteArray) (t : ByteArray) (k : Nat) : hadS ss t (k + 1) = (hadS ss t k || sameS (ssAt ss k) t) := by
  unfold hadS
  cases h : sameS (ssAt ss k) t with
  | true =>
    rw [Bool.or_true]
    exact decide_eq_true ⟨k, by omega, h⟩
  | false =>
    rw [Bool.or_false]
    refine decide_eq_decide.2 ⟨fun ⟨j, h1, h2⟩ => ⟨j, ?_, h2⟩, fun ⟨j, h1, h2⟩ => ⟨j, by omega, h2⟩⟩
    rcases Nat.lt_or_ge j k with h3 | h3
    · exact h3
    · obtain rfl : j = k := by omega
      rw [h] at h2; cases h2
theorem FndT.had {ss : List ByteArray} {t : ByteArray} {i : Nat} (h : FndT ss t i) : hadS ss t ss.length = decide (i < ss.length) := by
  unfold hadS
  refine decide_eq_decide.2 ⟨fun ⟨j, h1, h2⟩ => ?_, fun h1 => ⟨i, h1, h.yes h1⟩⟩
  rcases Nat.lt_or_ge i ss.length with h3 | h3
  · exact h3
  · rw [h.no j (by omega)] at h2; cases h2
/-- Behind a new string, it is found at the end. -/
theorem FndT.last {ss : List ByteArray} {t : ByteArray} {i : Nat} (h : FndT ss t i) (hi : i = ss.length) (hs : sameS t t = true) : FndT (ss ++ [t]) t i := by
  subst hi
  refine ⟨by simp, fun j hj => ?_, fun _ => ?_⟩
  · have := h.no j hj
    unfold ssAt at this ⊢
    have e : (ss ++ [t]).getD j ⟨#[]⟩ = ss.getD j ⟨#[]⟩ := by simp [List.getD, List.getElem?_append_left hj]
    rw [e]; exact this
  · unfold ssAt
    simpa using hs
end Go.Proofs.YtlpklloagaccoaaGreat
