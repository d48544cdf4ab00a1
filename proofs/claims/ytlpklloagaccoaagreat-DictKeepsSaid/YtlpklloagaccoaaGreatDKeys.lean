/- A dict's keys (dict.Keys). Conditions: the engine is as one that was made; the dict is one; keys are keys. -/
import Derived.Test.YtlpklloagaccoaaGreatDict6
import Derived.Test.YtlpklloagaccoaaGreatRowS
import Derived.Outline
namespace Go.Proofs.YtlpklloagaccoaaGreat
open Go.RowKit
set_option linter.unusedVariables false

theorem elVal : ElS 30 (.agg #[.int .i64 0, .int .i64 0]) 2 16 :=
  ⟨info_parts (show (Tryz.prog.info? 30).map (fun i => (i.zero, i.size, i.bytes)) = some (some (.agg #[.int .i64 0, .int .i64 0]), 2, 16) from by kernel_rfl), by decide, by decide, by decide⟩
/-- Nothing is the same as a value of kind -1. -/
theorem same_none {p : Nat} (q : Nat) (n : Int) (w : World) :
    Calls Tryz.prog 154 #[.pointer (some ⟨p, 0, none⟩), valV q n, valV (-1) 0] w fun e w' => e = .returned (.bool false) ∧ Below w.heap.size w w' := by
  have HV := Lib.hid (fun w1 => show Calls Tryz.prog 188 #[valV (q : Int) n, valV (-1) 0] w1 fun e w' => e = .returned (.bool false) ∧ Below w1.heap.size w1 w' from
    (valsame (q : Int) n (-1) 0 w1).mono fun e w' hh => ⟨by
      have hv : vsame (q : Int) n (-1) 0 = false := by
        unfold vsame
        have : ((q : Int) == -1) = false := by first | (simp; done) | (simp; omega)
        rw [this]; rfl
      rw [hh.1, hv], hh.2⟩)
  have h1 : ((q : Int) != 3) = true ∨ ((q : Int) != 3) = false := by cases ((q : Int) != 3) <;> simp
  have HR := Lib.hid (fun (w1 w2 : World) (hw : Below w.heap.size w w1) (hb : Below w1.heap.size w1 w2) => hw.trans (hb.mono hw.size))
  rcases h1 with h1 | h1
  all_goals
    go_enter Tryz.func154, Tryz.ntmps154
    go_wp2_with (go_at_call 188; refine (HV.out _).mono ?_; rintro e w2 ⟨rfl, hb⟩; have HB := Lib.hid hb; clear hb)
    all_goals
      go_ret
      exact ⟨rfl, HR.out _ _ (by repeat (first | exact Below.refl _ _ | refine Below.alloc ?_ (by first | omega | (simp; done) | (simp; omega)) _ | refine Below.drew ?_)) HB.out⟩
section
variable {o : Own} {r p : Nat} {S : EngS} {h : Int} {ks vs : Nat → Nat × Int} {n c : Nat} {s : Int}
set_option maxRecDepth 100000 in
set_option maxHeartbeats 1000000 in
theorem dfind_none (w : World) (ho : Owned o w) (E : EngRep o w r p S) (A : DS S h ks vs n c s) :
    Calls Tryz.prog 99 #[.pointer (some ⟨p, 0, none⟩), .int .i64 h, valV (-1) 0] w fun e w' => e = .returned (.tuple #[.int .i64 s, .int .i64 (n : Nat), .int .i64 (n : Nat)]) ∧ Fr 0 0 o o w w' := by
  obtain ⟨x, B⟩ := A.ex
  have HL := Lib.hid (fun (w1 : World) (F : Fr 0 0 o o w w1) => (dlen w1 F.fresh (E.keep F (.inr (Nat.zero_le _))) B).mono fun e w' (hh : _ ∧ Below w1.heap.size w1 w') => (⟨hh.1, Fr.of_below F.fresh hh.2⟩ : e = .returned (.tuple #[.int .i64 (n : Nat), .int .i64 0]) ∧ Fr 0 0 o o w1 w'))
  have HSt := Lib.hid (fun (w1 : World) (F : Fr 0 0 o o w w1) => (lstore w1 F.fresh (E.keep F (.inr (Nat.zero_le _))) B.st).mono fun e w' (hh : _ ∧ Below w1.heap.size w1 w') => (⟨hh.1, Fr.of_below F.fresh hh.2⟩ : e = .returned (.tuple #[.int .i64 s, .int .i64 (c : Nat)]) ∧ Fr 0 0 o o w1 w'))
  have HC := Lib.hid (fun (i : Nat) (hi : i < n) (w1 : World) (F : Fr 0 0 o o w w1) => show Calls Tryz.prog 30 #[.pointer (some ⟨p, 0, none⟩), .int .i64 s, .int .i64 (2 * (i : Nat) : Int)] w1 fun e w' => e = .returned (.tuple #[valV (ks i).1 (ks i).2, .int .i64 0]) ∧ Fr 0 0 o o w1 w' from by
    obtain ⟨y, h1, h2, _, h3, _⟩ := A.st (by have := B.nc; omega)
    refine (rcell s (2 * (i : Nat) : Int) w1 F.fresh (E.keep F (.inr (Nat.zero_le _)))).mono fun e w' hh => ⟨?_, Fr.of_below F.fresh hh.2⟩
    rw [hh.1, cellA_in h1 (show (2 * (i : Nat) : Int) = ((2 * i : Nat) : Int) by omega) (by have := B.nc; omega), (h3 i hi).1])
  have HS := Lib.hid (fun (i : Nat) (w1 : World) (F : Fr 0 0 o o w w1) => show Calls Tryz.prog 154 #[.pointer (some ⟨p, 0, none⟩), valV (ks i).1 (ks i).2, valV (-1) 0] w1 fun e w' => e = .returned (.bool false) ∧ Fr 0 0 o o w1 w' from
    (same_none (p := p) (ks i).1 (ks i).2 w1).mono fun e w' hh => ⟨hh.1, Fr.of_below F.fresh hh.2⟩)
  have HO := Lib.hid ho
  have hn4 : (n : Int) ≤ 2000 := by have := B.nc; have := B.c4; omega
  clear E A B ho
  go_enter Tryz.func99, Tryz.ntmps99
  go_wp2_with fail
  go_at_call 46
  refine (HL.out _ (by repeat (first | exact Fr.refl HO.out | refine Fr.drew ?_ | refine Fr.alloc ?_ _))).mono ?_
  rintro e w2 ⟨rfl, F2⟩
  have HG2 := Lib.hid ((Grew.base HO.out (vX (-1) 0)).fr0 F2)
  clear F2
  go_wp2_with fail
  go_at_call 151
  refine (HSt.out _ HG2.out.fr).mono ?_
  rintro e w3 ⟨rfl, F3⟩
  have HG3 := Lib.hid (HG2.out.fr0 F3)
  clear F3
  go_wp2_with fail
  go_loopw [29] (fun iv wr => ∃ i : Nat, i ≤ n ∧ iv = .int .i64 i ∧ Grew o w (vX (-1) 0) wr) (fun iv _ => n - (intOf iv).toNat)
  case atStart => exact ⟨0, by omega, rfl, HG3.out⟩
  case round =>
    obtain ⟨i, hi, rfl, Gi⟩ := hrel
    by_cases hin : i < n
    · have hin' : (i : Int) < (n : Int) := by omega
      have HGi := Lib.hid Gi
      clear Gi hi
      have HCi := Lib.hid (HC.out i hin wr HGi.out.fr)
      have HSi := Lib.hid (HS.out i)
      generalize ks i = ki at HCi HSi
      obtain ⟨q2, n2⟩ := ki
      simp only at HCi HSi
      go_wp2_with fail
      go_at_call 30
      refine HCi.out.mono ?_
      rintro e w5 ⟨rfl, F5⟩
      have HG5 := Lib.hid (HGi.out.fr0 F5)
      have hsz : w.heap.size < w5.heap.size := lt_of_block HG5.out.x_
      clear F5
      have X := HG5.out.x_
      unfold vX at X
      have x0 : w5.cell? ⟨w.heap.size, 0, none⟩ = some (.int .i64 (-1)) := by simp [World.cell?, X]
      have x1 : w5.cell? ⟨w.heap.size, 1, none⟩ = some (.int .i64 0) := by simp [World.cell?, X]
      clear X
      go_wp2_with fail
      go_at_call 154
      refine (HSi.out _ (by repeat (first | exact HG5.out.fr | refine Fr.drew ?_ | refine Fr.alloc ?_ _))).mono ?_
      rintro e w6 ⟨rfl, F6⟩
      have HG6 := Lib.hid ((HG5.out.alloc (vX (q2 : Int) n2)).fr0 F6)
      clear F6 x0 x1
      go_wp2_with fail
      exact ⟨⟨i + 1, by omega, by go_num, HG6.out⟩, by simp [intOf]; omega⟩
    · have hin' : ¬ (i : Int) < (n : Int) := by omega
      obtain rfl : i = n := by omega
      have HGi := Lib.hid Gi
      clear Gi hi
      go_wp2_with fail
      go_ret3
      exact ⟨rfl, HGi.out.fr⟩
/-- Keys as cells. -/
def keysC (ks : Nat → Nat × Int) : Nat → List Value
  | 0 => []
  | i + 1 => keysC ks i ++ [.int .i64 (ks i).1, .int .i64 (ks i).2]
theorem keysC_len (ks : Nat → Nat × Int) : ∀ n, (keysC ks n).length = 2 * n
  | 0 => rfl
  | n + 1 => by show (keysC ks n ++ _).length = _; rw [List.length_append, keysC_len ks n]; rfl
theorem keysC_at (ks : Nat → Nat × Int) {i : Nat} : ∀ {n : Nat}, i < n → (keysC ks n)[2 * i]? = some (.int .i64 (ks i).1) ∧ (keysC ks n)[2 * i + 1]? = some (.int .i64 (ks i).2)
  | 0, h => absurd h (by omega)
  | n + 1, h => by
    show (keysC ks n ++ [_, _])[2 * i]? = _ ∧ (keysC ks n ++ [_, _])[2 * i + 1]? = _
    have hl := keysC_len ks n
    by_cases e : i < n
    · rw [List.getElem?_append_left (by omega), List.getElem?_append_left (by omega)]
      exact keysC_at ks e
    · obtain rfl : i = n := by omega
      rw [List.getElem?_append_right (by omega), List.getElem?_append_right (by omega), hl, Nat.sub_self, show 2 * i + 1 - 2 * i = 1 by omega]
      exact ⟨rfl, rfl⟩
def KeysPost (o : Own) (w : World) (ks : Nat → Nat × Int) (n : Nat) (e : Ending) (w' : World) : Prop :=
  ∃ v, e = .returned (.tuple #[v, .int .i64 0]) ∧ Fr 0 0 o o w w' ∧ RowS 30 2 w o w' v n (keysC ks n)
set_option maxRecDepth 100000 in
set_option maxHeartbeats 1000000 in
theorem dkeys (w : World) (hr : 1 ≤ r) (ho : Owned o w) (E : EngRep o w r p S) (A : DS S h ks vs n c s) :
    Calls Tryz.prog 45 #[.pointer (some ⟨p, 0, none⟩), .int .i64 h] w (KeysPost o w ks n) := by
  have HK := Lib.hid (show Calls Tryz.prog 33 #[.pointer (some ⟨p, 0, none⟩), .int .i64 h] w fun e w' => e = .returned (.int .i64 3) ∧ Fr 0 0 o o w w' from
    (rkind h w ho E).mono fun e w' hh => ⟨by rw [hh.1, A.kind]; rfl, Fr.of_below ho hh.2⟩)
  have HFi := Lib.hid (fun (w1 : World) (F : Fr 0 0 o o w w1) => dfind_none w1 F.fresh (E.keep F (.inr (Nat.zero_le _))) A)
  have HC := Lib.hid (fun (i : Nat) (hi : i < n) (w1 : World) (F : Fr 0 0 o o w w1) => show Calls Tryz.prog 30 #[.pointer (some ⟨p, 0, none⟩), .int .i64 s, .int .i64 (2 * (i : Nat) : Int)] w1 fun e w' => e = .returned (.tuple #[valV (ks i).1 (ks i).2, .int .i64 0]) ∧ Fr 0 0 o o w1 w' from by
    obtain ⟨x, B⟩ := A.ex
    obtain ⟨y, h1, h2, _, h3, _⟩ := A.st (by have := B.nc; omega)
    refine (rcell s (2 * (i : Nat) : Int) w1 F.fresh (E.keep F (.inr (Nat.zero_le _)))).mono fun e w' hh => ⟨?_, Fr.of_below F.fresh hh.2⟩
    rw [hh.1, cellA_in h1 (show (2 * (i : Nat) : Int) = ((2 * i : Nat) : Int) by omega) (by have := B.nc; omega), (h3 i hi).1])
  have HO := Lib.hid ho
  have hn4 : (n : Int) ≤ 2000 := by obtain ⟨x, B⟩ := A.ex; have := B.nc; have := B.c4; omega
  clear E A ho hr
  go_enter Tryz.func45, Tryz.ntmps45
  go_wp2_with fail
  go_at_call 33
  refine HK.out.mono ?_
  rintro e w2 ⟨rfl, F2⟩
  have HF2 := Lib.hid F2
  clear F2
  go_wp2_with fail
  go_at_call 99
  refine (HFi.out _ HF2.out).mono ?_
  rintro e w3 ⟨rfl, F3⟩
  have HF3 := Lib.hid (HF2.out.trans F3)
  clear F3
  go_wp2_with fail
  go_loopw [9, 26] (fun vv iv wr => ∃ i : Nat, i ≤ n ∧ iv = .int .i64 i ∧ Fr 0 0 o o w wr ∧ RowS 30 2 w o wr vv i (keysC ks i)) (fun _ iv _ => n - (intOf iv).toNat)
  case atStart => exact ⟨0, by omega, rfl, HF3.out, RowS.nil _ _ _ _ _⟩
  case round =>
    obtain ⟨i, hi, rfl, Fi, Ri⟩ := hrel
    have HFi2 := Lib.hid Fi
    have HRi := Lib.hid Ri
    clear Fi Ri
    by_cases hin : i < n
    · have hin' : (i : Int) < (n : Int) := by omega
      have HCi := Lib.hid (HC.out i hin wr HFi2.out)
      have hS : keysC ks (i + 1) = keysC ks i ++ [.int .i64 (ks i).1, .int .i64 (ks i).2] := rfl
      have HS := Lib.hid hS
      clear hS
      generalize ks i = ki at *
      obtain ⟨q2, n2⟩ := ki
      simp only at HCi HS
      go_wp2_with fail
      go_at_call 30
      refine HCi.out.mono ?_
      rintro e w5 ⟨rfl, F5⟩
      have HF5 := Lib.hid (HFi2.out.trans F5)
      have HR5 := Lib.hid (HRi.out.keep F5 (.inr rfl))
      clear F5
      go_wp2_with (at_builtin; go_loud (refine wpList_append_rowS _ rfl _ _ _ rfl elVal Tryz.underlying47 (w0 := w) (o0 := o) (o := o) (lo := 0) (hi := 0) (by repeat (first | exact HF5.out | refine Fr.drew ?_ | refine Fr.alloc ?_ _)) rfl (HR5.out.keep (lo := 0) (hi := 0) (by repeat (first | exact Fr.refl HF5.out.fresh | refine Fr.drew ?_ | refine Fr.alloc ?_ _)) (.inr rfl)) rfl [.int .i64 (q2 : Nat), .int .i64 n2] rfl (World.news_of_block (by have h0 := heap_alloc_new (w5.alloc (vX (q2 : Int) n2)) (vX (q2 : Int) n2); unfold vX at h0; simpa using h0)) (by intro u hu; simp only [List.mem_cons, List.not_mem_nil, or_false] at hu; rcases hu with rfl | rfl <;> rfl) (by omega) ?_; intro v6 w6 F6 R6 G6; have HF6 := Lib.hid F6; have HR6 := Lib.hid R6; clear F6 R6 G6))
      rw [← HS.out] at HR6
      exact ⟨⟨i + 1, by omega, by go_num, HF6.out, HR6.out⟩, by simp [intOf]; omega⟩
    · have hin' : ¬ (i : Int) < (n : Int) := by omega
      obtain rfl : i = n := by omega
      go_wp2_with fail
      go_ret2
      exact ⟨_, rfl, HFi2.out, HRi.out⟩
end
end Go.Proofs.YtlpklloagaccoaaGreat
