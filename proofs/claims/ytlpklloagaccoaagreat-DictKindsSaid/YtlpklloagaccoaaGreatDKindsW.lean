/- The walk of DictKinds. No condition. -/
import Derived.Test.YtlpklloagaccoaaGreatDict6
import Derived.Outline
namespace Go.Proofs.YtlpklloagaccoaaGreat
open Go.RowKit
set_option linter.unusedVariables false

/-- The law's keys. -/
def kf (n m : Int) : Nat → Nat × Int
  | 0 => (0, 0)
  | 1 => (1, n)
  | 2 => (2, 0)
  | 3 => (2, 1)
  | _ => (1, m)
theorem kf_ne {n m : Int} (h : n ≠ m) {i j : Nat} (hij : j < i) (hi : i < 5) : vsame (kf n m j).1 (kf n m j).2 (kf n m i).1 (kf n m i).2 = false := by
  have hc : (j = 0 ∧ i = 1) ∨ (j = 0 ∧ i = 2) ∨ (j = 0 ∧ i = 3) ∨ (j = 0 ∧ i = 4) ∨ (j = 1 ∧ i = 2) ∨ (j = 1 ∧ i = 3) ∨ (j = 1 ∧ i = 4) ∨ (j = 2 ∧ i = 3) ∨ (j = 2 ∧ i = 4) ∨ (j = 3 ∧ i = 4) := by omega
  rcases hc with ⟨rfl, rfl⟩ | ⟨rfl, rfl⟩ | ⟨rfl, rfl⟩ | ⟨rfl, rfl⟩ | ⟨rfl, rfl⟩ | ⟨rfl, rfl⟩ | ⟨rfl, rfl⟩ | ⟨rfl, rfl⟩ | ⟨rfl, rfl⟩ | ⟨rfl, rfl⟩ <;> simp [kf, vsame, h]
theorem kf_self {n m : Int} {i : Nat} : vsame (kf n m i).1 (kf n m i).2 (kf n m i).1 (kf n m i).2 = true := by unfold vsame; simp
theorem kf_le {n m : Int} (i : Nat) : (kf n m i).1 ≤ 2 := by unfold kf; split <;> simp
theorem kf_64 {n m : Int} (hn : in64 n) (hm : in64 m) (i : Nat) : in64 (kf n m i).2 := by
  unfold kf
  split
  · unfold in64; decide
  · exact hn
  · unfold in64; decide
  · unfold in64; decide
  · exact hm
def kfCells (n m : Int) : Array Value := #[.int .i64 0, .int .i64 0, .int .i64 1, .int .i64 n, .int .i64 2, .int .i64 0, .int .i64 2, .int .i64 1, .int .i64 1, .int .i64 m]
theorem kf_cell (n m : Int) {i : Nat} (hi : i < 5) : (kfCells n m)[i * 2]? = some (.int .i64 ((kf n m i).1 : Nat)) ∧ (kfCells n m)[i * 2 + 1]? = some (.int .i64 (kf n m i).2) := by
  have hc : i = 0 ∨ i = 1 ∨ i = 2 ∨ i = 3 ∨ i = 4 := by omega
  rcases hc with rfl | rfl | rfl | rfl | rfl <;> exact ⟨rfl, rfl⟩
theorem xor_one {n : Int} (h : in64 n) : bits .xor .i64 n 1 ≠ n ∧ in64 (bits .xor .i64 n 1) := by
  have h1 : bits .xor .i64 n 1 = IntKind.i64.wrap ((BitVec.ofInt 64 n ^^^ BitVec.ofInt 64 1).toNat : Int) := rfl
  have hlt : (BitVec.ofInt 64 n ^^^ BitVec.ofInt 64 1).toNat < 18446744073709551616 := BitVec.isLt _
  have h2 : in64 (bits .xor .i64 n 1) := by rw [h1, IntKind.wrap_i64]; unfold in64; omega
  refine ⟨fun e => ?_, h2⟩
  have ha : (BitVec.ofInt 64 n).toNat = (n % 18446744073709551616).toNat := by rw [BitVec.toNat_ofInt]; rfl
  have hb : (BitVec.ofInt 64 1).toNat = 1 := by decide
  have hx : (BitVec.ofInt 64 n ^^^ BitVec.ofInt 64 1).toNat % 2 ≠ (BitVec.ofInt 64 n).toNat % 2 := by
    rw [BitVec.toNat_xor, hb]
    have t1 : ∀ a : Nat, (a % 2 == 1) = a.testBit 0 := fun a => by rw [Nat.testBit_zero]; rfl
    intro e2
    have e3 := congrArg (fun z => z == 1) e2
    simp only [t1, Nat.testBit_xor] at e3
    revert e3
    cases (BitVec.ofInt 64 n).toNat.testBit 0 <;> decide
  rw [h1, IntKind.wrap_i64] at e
  generalize (BitVec.ofInt 64 n ^^^ BitVec.ofInt 64 1).toNat = x at *
  rw [ha] at hx
  unfold in64 at h
  omega
theorem updF_self {α : Type} {f g : Nat → α} {i : Nat} (h : ∀ j, j < i → f j = g j) : ∀ j, j < i + 1 → updF f i (g i) j = g j := fun j hj => by
  unfold updF
  split
  · rename_i e; rw [e]
  · exact h j (by omega)
theorem updF_id {α : Type} (f : Nat → α) (i : Nat) : updF f i (f i) = f := by
  funext j; unfold updF; split
  · rename_i e; rw [e]
  · rfl
set_option maxRecDepth 100000 in
set_option maxHeartbeats 2000000 in
theorem kinds_walk (n : Int) (w : World) (w0 : in64 n) : Calls Tryz.prog 7 #[.int .i64 n] w fun e w' => e = .returned (.bool true) ∧ Below w.heap.size w w' := by
  have HA := Lib.hid (alive18 w)
  obtain ⟨hx1, hx2⟩ := xor_one w0
  have HN := Lib.hid (fun (o : Own) (w1 : World) (ho : Owned o w1) => show Calls Tryz.prog 27 #[.int .i64 20, .int .i64 0, .int .i64 100] w1 (EngNew o w1 1 20 100) from eng_new 1 20 100 w1 ho (by omega) (by omega) (by omega) (by omega))
  generalize hm : bits .xor .i64 n 1 = m at hx1 hx2
  have HNM := Lib.hid (And.intro w0 (And.intro hx2 (Ne.symm hx1)))
  clear hx1 hx2 w0
  go_enter Tryz.func7, Tryz.ntmps7
  go_wp2_with fail
  go_at_call 40
  refine HA.out.mono ?_
  rintro e w1 ⟨rfl, hb⟩
  have HF1 := Lib.hid (LF.of_below hb)
  clear hb
  go_wp2_with fail
  go_at_call 27
  refine (HN.out _ _ HF1.out.fresh).mono ?_
  rintro e w2 ⟨p, o2, rfl, F2, E2⟩
  have HF2 := Lib.hid (HF1.out.fr F2 (by omega))
  have HE2 := Lib.hid E2
  clear F2 E2
  go_wp2_with fail
  go_at_call 41
  refine (d_new 20 100 (kf n m) (fun i => (1, (i : Int))) _ (by omega) HF2.out.fresh HE2.out).mono ?_
  rintro e w3 ⟨a, o3, rfl, F3, G3⟩
  have HF3 := Lib.hid (HF2.out.fr F3 (by omega))
  have HG3 := Lib.hid G3
  clear F3 G3
  go_wp2_with fail
  go_loopw [8] (fun iv wr => ∃ (i : Nat) (o' : Own), i ≤ 5 ∧ iv = .int .i64 i ∧ LF w o' wr ∧ DL o' wr p a 20 (kf n m) (fun i => (1, (i : Int))) i ∧ Blk o' wr 0 w3.heap.size (.cells (kfCells n m) 30 (0, 0))) (fun iv _ => 5 - (intOf iv).toNat)
  case atStart => exact ⟨0, o3, by omega, rfl, HF3.out.alloc _, HG3.out.keep (lo := 0) (hi := 0) ((Fr.refl HF3.out.fresh).alloc _) (.inr (by omega)), HF3.out.fresh _ (Nat.le_refl _), heap_alloc_new w3 _⟩
  case round =>
    obtain ⟨i, oi, hi, rfl, Fi, Gi, Bi⟩ := hrel
    by_cases hin : i < 5
    · have hin' : (i : Int) < 5 := by omega
      have c0 : wr.cell? ⟨w3.heap.size, i * 2, none⟩ = some (.int .i64 ((kf n m i).1 : Nat)) := (Bi.cell _).trans (kf_cell n m hin).1
      have c1 : wr.cell? ⟨w3.heap.size, i * 2 + 1, none⟩ = some (.int .i64 (kf n m i).2) := (Bi.cell _).trans (kf_cell n m hin).2
      have HGt := Lib.hid (fun (w5 : World) (F : Fr 0 0 oi oi wr w5) => show Calls Tryz.prog 42 #[.pointer (some ⟨p, 0, none⟩), .int .i64 (a : Nat), valV (kf n m i).1 (kf n m i).2] w5 fun e w' => e = .returned (.tuple #[valV 0 0, .int .i64 13]) ∧ Fr 0 0 oi oi wr w' from
        (d_get (kf n m i) wr w5 F Gi (kf_le i)).mono fun e w' hh => by
          obtain ⟨j, h1, h2, h3⟩ := hh
          have hj : ¬ j < i := fun h => by
            have := h1.yes h
            rw [kf_ne HNM.out.2.2 h hin] at this; cases this
          refine ⟨?_, h3⟩
          rw [h2]; unfold getA; rw [if_neg hj])
      have HPt := Lib.hid (fun (w5 : World) (F : Fr 0 0 oi oi wr w5) => show Calls Tryz.prog 44 #[.pointer (some ⟨p, 0, none⟩), .int .i64 (a : Nat), valV (kf n m i).1 (kf n m i).2, valV 1 (i : Nat)] w5 fun e w' => ∃ o', e = .returned (.int .i64 0) ∧ Fr 1 30 oi o' wr w' ∧ DL o' w' p a 20 (kf n m) (fun i => (1, (i : Int))) (i + 1) from
        (d_put (kf n m i) (1, (i : Int)) wr w5 F Gi (kf_le i) (kf_64 HNM.out.1 HNM.out.2.1 i) (by show 1 ≤ 2; omega) (by unfold in64; show -9223372036854775808 ≤ (i : Int) ∧ (i : Int) < _; omega) (by omega)).mono fun e w' hh => by
          obtain ⟨j, o', h1, h2, h3, h4⟩ := hh
          have hj : ¬ j < i := fun h => by
            have := h1.yes h
            rw [kf_ne HNM.out.2.2 h hin] at this; cases this
          rcases h4 with ⟨h, _⟩ | ⟨_, h⟩
          · exact absurd h hj
          · rw [updF_id, updF_id (fun i : Nat => ((1 : Nat), (i : Int)))] at h
            exact ⟨o', h2, h3, h⟩)
      have HFi := Lib.hid Fi
      have HBi := Lib.hid Bi
      have hBl := Bi.lt
      clear Fi Gi Bi hi
      generalize (kf n m i).1 = q at *
      generalize (kf n m i).2 = z at *
      go_wp2_with fail
      go_at_call 42
      refine (HGt.out _ (by repeat (first | exact Fr.refl HFi.out.fresh | refine Fr.drew ?_ | refine Fr.alloc ?_ _))).mono ?_
      rintro e w5 ⟨rfl, F5⟩
      have HF5 := Lib.hid F5
      have HBk := Lib.hid (HBi.out.keep F5 (.inr (by omega)))
      have d0 : w5.cell? ⟨w3.heap.size, i * 2, none⟩ = some (.int .i64 (q : Nat)) := by rw [World.cell?_of_block (a := ⟨w3.heap.size, i * 2, none⟩) (F5.block _ hBl (.inr (Nat.zero_le _)))]; exact c0
      have d1 : w5.cell? ⟨w3.heap.size, i * 2 + 1, none⟩ = some (.int .i64 z) := by rw [World.cell?_of_block (a := ⟨w3.heap.size, i * 2 + 1, none⟩) (F5.block _ hBl (.inr (Nat.zero_le _)))]; exact c1
      have hBl5 : w3.heap.size < w5.heap.size := Nat.lt_of_lt_of_le hBl F5.size
      clear F5 c0 c1 hBl
      go_wp2_with (first
        | (go_at_call 43; refine (num18 _ _).mono ?_; rintro e w' ⟨rfl, rfl⟩))
      go_at_call 44
      refine (HPt.out _ (by repeat (first | exact HF5.out | refine Fr.drew ?_ | refine Fr.alloc ?_ _))).mono ?_
      rintro e w6 ⟨o6, rfl, F6, G6⟩
      have HF6 := Lib.hid (HFi.out.fr F6 (by omega))
      have HB6 := Lib.hid (HBi.out.keep F6 (.inl (by omega)))
      have HG6 := Lib.hid G6
      clear F6 G6 d0 d1
      go_wp2_with (first
        | (go_at_call 43; refine (num18 _ _).mono ?_; rintro e w' ⟨rfl, rfl⟩))
      exact ⟨⟨i + 1, o6, by omega, by go_num, HF6.out, HG6.out, HB6.out⟩, by simp [intOf]; omega⟩
    · have hin' : ¬ (i : Int) < 5 := by omega
      obtain rfl : i = 5 := by omega
      obtain ⟨wo, rfl⟩ : ∃ wo : World, wo = wr := ⟨_, rfl⟩
      have HGt := Lib.hid (fun (j : Nat) (hj : j < 5) (w5 : World) (F : Fr 0 0 oi oi wo w5) => show Calls Tryz.prog 42 #[.pointer (some ⟨p, 0, none⟩), .int .i64 (a : Nat), valV (kf n m j).1 (kf n m j).2] w5 fun e w' => e = .returned (.tuple #[valV 1 (j : Nat), .int .i64 0]) ∧ Fr 0 0 oi oi wo w' from
        (d_get (kf n m j) wo w5 F Gi (kf_le j)).mono fun e w' hh => by
          obtain ⟨k, h1, h2, h3⟩ := hh
          have hk : k = j := by
            rcases Nat.lt_trichotomy k j with h | h | h
            · have := h1.yes (by omega)
              rw [kf_ne HNM.out.2.2 h hj] at this; cases this
            · exact h
            · have := h1.no j h
              rw [kf_self] at this; cases this
          subst hk
          refine ⟨?_, h3⟩
          rw [h2]; unfold getA; rw [if_pos hj]; rfl)
      have HG7 := Lib.hid (fun (w5 : World) (F : Fr 0 0 oi oi wo w5) => show Calls Tryz.prog 42 #[.pointer (some ⟨p, 0, none⟩), .int .i64 (a : Nat), valV 0 77] w5 fun e w' => e = .returned (.tuple #[valV 1 0, .int .i64 0]) ∧ Fr 0 0 oi oi wo w' from
        (d_get (0, 77) wo w5 F Gi (by decide)).mono fun e w' hh => by
          obtain ⟨k, h1, h2, h3⟩ := hh
          have hk : k = 0 := by
            rcases Nat.eq_zero_or_pos k with h | h
            · exact h
            · have := h1.no 0 h; cases this
          subst hk
          exact ⟨h2, h3⟩)
      have HFi := Lib.hid Fi
      have HBi := Lib.hid Bi
      clear Fi Gi Bi hi hin
      go_wp2_with fail
      go_loopw [11] (fun iv wr => ∃ j : Nat, j ≤ 5 ∧ iv = .int .i64 j ∧ Fr 0 0 oi oi wo wr) (fun iv _ => 5 - (intOf iv).toNat)
      case atStart => exact ⟨0, by omega, rfl, Fr.refl HFi.out.fresh⟩
      case round =>
        obtain ⟨j, hj, rfl, Fj⟩ := hrel
        by_cases hj5 : j < 5
        · have hj5' : (j : Int) < 5 := by omega
          have Bj := HBi.out.keep Fj (.inr (by omega))
          have c0 : wr.cell? ⟨w3.heap.size, j * 2, none⟩ = some (.int .i64 ((kf n m j).1 : Nat)) := (Bj.cell _).trans (kf_cell n m hj5).1
          have c1 : wr.cell? ⟨w3.heap.size, j * 2 + 1, none⟩ = some (.int .i64 (kf n m j).2) := (Bj.cell _).trans (kf_cell n m hj5).2
          have HGj := Lib.hid (HGt.out j hj5 wr Fj)
          have hBl := Bj.lt
          clear Bj Fj hj
          generalize (kf n m j).1 = q at *
          generalize (kf n m j).2 = z at *
          go_wp2_with fail
          go_at_call 42
          refine HGj.out.mono ?_
          rintro e w5 ⟨rfl, F5⟩
          have HF5 := Lib.hid F5
          clear F5
          go_wp2_with (first
            | (go_at_call 43; refine (num18 _ _).mono ?_; rintro e w' ⟨rfl, rfl⟩))
          exact ⟨⟨j + 1, by omega, by go_num, HF5.out.alloc _⟩, by simp [intOf]; omega⟩
        · have hj5' : ¬ (j : Int) < 5 := by omega
          have HFj := Lib.hid Fj
          clear Fj
          go_wp2_with fail
          go_at_call 42
          refine (HG7.out _ (by repeat (first | exact HFj.out | refine Fr.drew ?_ | refine Fr.alloc ?_ _))).mono ?_
          rintro e w5 ⟨rfl, F5⟩
          have HF5 := Lib.hid (HFi.out.fr F5 (by omega))
          clear F5
          go_wp2_with (first
            | (go_at_call 43; refine (num18 _ _).mono ?_; rintro e w' ⟨rfl, rfl⟩))
          go_ret
          exact ⟨rfl, (HF5.out.alloc _).tob⟩
end Go.Proofs.YtlpklloagaccoaaGreat
