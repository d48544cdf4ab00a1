/- Objects' raw bytes are read (object.raw, Raw). Conditions: the space is as one that was made. -/
import Derived.Test.YtlpklloagaccoaaObHead
import Derived.Outline
namespace Go.Proofs.Ytlpklloagaccoaa
open Go.RowKit
set_option linter.unusedVariables false

theorem raw_any (h i : Int) (k c r n col a j : Nat) (z d : Bool) (w : World) (ha : h = a) (hi : i = j) (hc : c ≤ 4000) (ha4 : a ≤ 262144) (hj4 : j ≤ 8000) :
    Calls Try.prog 31 #[.int .i64 h, hdV k c r n col z d, .int .i64 i] w fun e w' => e = .returned (.tuple #[.int .i64 (a + 1 + 2 * c + j / 8 : Nat), .int .i64 (j % 8 * 8 : Nat)]) ∧ Below w.heap.size w w' := by
  subst ha hi
  have a0 : (0 : Int) ≤ (a : Int) := by omega
  have a4 : (a : Int) ≤ 262144 := by omega
  have c0 : (0 : Int) ≤ (c : Int) := by omega
  have c4 : (c : Int) ≤ 4000 := by omega
  have j0 : (0 : Int) ≤ (j : Int) := by omega
  have j4 : (j : Int) ≤ 8000 := by omega
  go_enter Try.func31, Try.ntmps31
  go_wp2
  go_ret2
  refine ⟨?_, (Below.refl _ _).alloc (Nat.le_refl _) _⟩
  first | rfl | (congr 3; omega)
/-- Block g is n bytes: f. -/
def BytesB (w : World) (g n : Nat) (f : Nat → Nat) : Prop :=
  ∃ cs : Array Value, w.heap[g]? = some (.cells cs 5 (0, 0)) ∧ cs.size = n ∧ ∀ i, i < n → cs[i]? = some (.int .u8 (f i : Nat))
theorem BytesB.cell {w : World} {g n : Nat} {m : Nat → Nat} (h : BytesB w g n m) {i : Nat} (hi : i < n) : w.cell? ⟨g, i, none⟩ = some (.int .u8 (m i : Nat)) := by
  obtain ⟨cs, h1, h2, h3⟩ := h
  simp [World.cell?, h1, h3 i hi]
theorem BytesB.free {w : World} {g n : Nat} {m : Nat → Nat} (h : BytesB w g n m) (i : Nat) : w.frozen? ⟨g, i, none⟩ = false := by
  obtain ⟨cs, h1, h2, h3⟩ := h
  simp [World.frozen?, h1]
theorem BytesB.of_eq {w w' : World} {g n : Nat} {m : Nat → Nat} (h : BytesB w g n m) (e : w'.heap[g]? = w.heap[g]?) : BytesB w' g n m :=
  let ⟨cs, h1, h2, h3⟩ := h; ⟨cs, e.trans h1, h2, h3⟩
theorem BytesB.lt {w : World} {g n : Nat} {m : Nat → Nat} (h : BytesB w g n m) : g < w.heap.size := let ⟨_, h1, _⟩ := h; lt_of_block h1
theorem BytesB.congr {w : World} {g n : Nat} {m m' : Nat → Nat} (h : BytesB w g n m) (e : ∀ i, i < n → m' i = m i) : BytesB w g n m' :=
  let ⟨cs, h1, h2, h3⟩ := h; ⟨cs, h1, h2, fun i hi => by rw [e i hi]; exact h3 i hi⟩
theorem BytesB.set {w : World} {g n : Nat} {m : Nat → Nat} (h : BytesB w g n m) (k v : Nat) : BytesB (w.setCell ⟨g, k, none⟩ (.int .u8 (v : Nat))) g n (updN m k v) := by
  obtain ⟨cs, h1, h2, h3⟩ := h
  refine ⟨_, heap_set h1 k _, by simpa using h2, fun i hi => ?_⟩
  unfold updN
  by_cases hk : i = k
  · subst hk; simp [h2, hi]
  · have hk' : ¬ k = i := fun e => hk e.symm
    rw [Array.getElem?_setIfInBounds]
    simp [hk', hk, h3 i hi]
theorem BytesB.made (w : World) (n : Nat) : BytesB (w.alloc (.cells (madeCells #[Value.int .u8 0] n) 5)) w.heap.size n (fun _ => 0) := by
  refine ⟨_, heap_alloc_new w _, by rw [size_madeCells], fun i hi => ?_⟩
  have h := toList_madeCells_one (.int .u8 0) n
  rw [← Array.getElem?_toList, h, List.getElem?_replicate]
  simp [hi]
theorem BytesB.keep {lo hi : Nat} {o o' : Own} {w w' : World} {g n : Nat} {m : Nat → Nat} (h : BytesB w g n m) (k : Fr lo hi o o' w w') (hr : o g < lo ∨ hi ≤ o g) : BytesB w' g n m := h.of_eq (k.block g h.lt hr)
theorem infoU8 : (Try.prog.info? 5).map (fun i => (i.zero, i.size, i.bytes)) = some (some (.int .u8 0), 1, 1) := by kernel_rfl
/-- A header in a block. -/
def hdX (k c r n col : Int) (z : Bool) : Obj := .cells #[.int .i64 k, .int .i64 c, .int .i64 r, .int .i64 n, .int .i64 col, .bool z, .bool false] 53
/-- Behind Raw. -/
def RawPost (o : Own) (w : World) (x : Ob) (e : Ending) (w' : World) : Prop :=
  ∃ g, e = .returned (.tuple #[.slice (some ⟨g, 0, none⟩) x.raw x.raw, .int .i64 0]) ∧ Fr 0 0 o o w w' ∧ w.heap.size ≤ g ∧ BytesB w' g x.raw x.byte
def RawRel (o : Own) (w : World) (x : Ob) (col : Nat) (z : Bool) (xb g i : Nat) (wr : World) : Prop :=
  Fr 0 0 o o w wr ∧ wr.heap[xb]? = some (hdX x.kind x.cells x.raw x.cnt col z) ∧ BytesB wr g x.raw (fun j => if j < i then x.byte j else 0)
set_option maxRecDepth 100000 in
set_option maxHeartbeats 2000000 in
theorem oraw_yes {o : Own} {r p : Nat} {L : Al} {ob : Int → Option Ob} (h : Int) (x : Ob) (w : World) (ho : Owned o w) (S : SpaceRep o w r p L ob) (hx : ob h = some x) :
    Calls Try.prog 12 #[.pointer (some ⟨p, 0, none⟩), .int .i64 h] w (RawPost o w x) := by
  have HHd := Lib.hid (fun (w1 : World) (F : Fr 0 0 o o w w1) => show Calls Try.prog 30 #[.pointer (some ⟨p, 0, none⟩), .int .i64 h] w1 fun e w' => ∃ (col : Nat) (z : Bool), e = .returned (.tuple #[hdV x.kind x.cells x.raw x.cnt col z false, .int .i64 0]) ∧ Fr 0 0 o o w w' from
    (ohead_yes h x w1 F.fresh (S.keep F (.inr (Nat.zero_le _))) hx).mono fun e w' h => by
      obtain ⟨c2, z2, _, h1, h2⟩ := h
      exact ⟨c2, z2, h1, F.below h2⟩)
  obtain ⟨pa, A, S⟩ := S
  obtain ⟨a, ha, h64, hrange, hat⟩ := S.ok.range hx
  have hrange : a + wordsN x.cells x.raw ≤ A.n * 64 := hrange
  have hw : wordsN x.cells x.raw = 1 + 2 * x.cells + (x.raw + 7) / 8 := rfl
  obtain ⟨g, q, l, b, v, f, AR⟩ := S.ar
  have hn4 := AR.n1
  have hml := AR.mlt
  have hc1 := hat.c1
  have hr1 := hat.r1
  have HRd := Lib.hid (fun (w1 : World) (i : Nat) (hi : i < x.raw) (F : Fr 0 0 o o w w1) => show Calls Try.prog 29 #[.pointer (some ⟨pa, 0, none⟩), .int .i64 (a + 1 + 2 * x.cells + i / 8 : Nat)] w1 fun e w' => e = .returned (.tuple #[.int .u64 (A.m (a + 1 + 2 * x.cells + i / 8) : Nat), .int .i64 0]) ∧ w1 = w' from
    aread_any _ (a + 1 + 2 * x.cells + i / 8) w1 (S.ar.keep F (.inr (Nat.zero_le _))) rfl (by omega))
  have HGet := Lib.hid (fun (w1 : World) (i : Nat) (hi : i < x.raw) (j : Int) (hj : j = (i % 8 * 8 : Nat)) => show Calls Try.prog 32 #[.int .u64 (A.m (a + 1 + 2 * x.cells + i / 8) : Nat), .int .i64 j, .int .i64 8] w1 fun e w' => e = .returned (.int .u64 (x.byte i : Nat)) ∧ ∃ m, w' = w1.drewN m from by
    subst hj
    have := get_nat (A.m (a + 1 + 2 * x.cells + i / 8)) (i % 8 * 8) 8 (hml _) (by omega) (by omega) w1
    rw [hat.bytes i hi] at this; exact this)
  have HRaw := Lib.hid (fun (w1 : World) (col i : Nat) (z : Bool) (hi : i < x.raw) => raw_any h i x.kind x.cells x.raw x.cnt col a i z false w1 ha rfl hc1 (by omega) (by omega))
  have HBy := Lib.hid hat.bok
  obtain ⟨i8, hi8, hz8, hs8, hb8⟩ : ∃ i, Try.prog.info? 5 = some i ∧ i.zero = some (.int .u8 0) ∧ i.size = 1 ∧ i.bytes = 1 := by
    have h := infoU8
    cases hp : Try.prog.info? 5 with
    | none => rw [hp] at h; cases h
    | some i => rw [hp] at h; simp only [Option.map_some, Option.some.injEq, Prod.mk.injEq] at h; exact ⟨i, rfl, h.1, h.2.1, h.2.2⟩
  have hmk : ∀ W : World, (Instr.makeSlice 36 (.int .i64 (x.raw : Nat)) (.int .i64 (x.raw : Nat))).run Try.prog W = .ok (.slice (some ⟨W.heap.size, 0, none⟩) x.raw x.raw) (W.alloc (.cells (madeCells #[Value.int .u8 0] x.raw) 5)) := fun W => by
    have := run_make (P := Try.prog) W 36 5 i8 (.int .u8 0) Try.underlying36 hi8 hz8 .i64 .i64 (x.raw : Nat) (x.raw : Nat) (by omega) (Int.le_refl _) (by rw [hb8]; omega) (by omega)
    rw [Int.toNat_natCast, hs8, Nat.mul_one] at this
    exact this
  have c0 := S.c0
  have HO := Lib.hid ho
  have hpl := S.blk.lt
  have hr4 : (x.raw : Int) ≤ 4000 := by omega
  have hr0 : (0 : Int) ≤ (x.raw : Int) := by omega
  clear S AR hx ha h64 hrange hat hw hn4 ho hi8 hz8 hs8 hb8 hml hc1 hr1
  go_enter Try.func12, Try.ntmps12
  go_wp2_with fail
  go_at_call 30
  refine (HHd.out _ (by repeat (first | exact Fr.refl HO.out | refine Fr.drew ?_ | refine Fr.alloc ?_ _))).mono ?_
  rintro e w1 ⟨col, z, rfl, F1⟩
  have c1 := F1.cell0 c0
  have hp1 : p < w1.heap.size := Nat.lt_of_lt_of_le hpl F1.size
  have hsz1 := F1.size
  have HF1 := Lib.hid F1
  clear F1
  go_wp2_with fail
  go_loopw [28] (fun iv wr => ∃ i : Nat, i ≤ x.raw ∧ iv = .int .i64 i ∧ RawRel o w x col z w1.heap.size (w1.heap.size + 1) i wr) (fun iv _ => x.raw - (intOf iv).toNat)
  case atStart =>
    refine ⟨0, by omega, rfl, (HF1.out.alloc _).alloc _, ?_, ?_⟩
    · exact (heap_alloc_old _ _ (by simp)).trans (heap_alloc_new w1 _)
    · have := BytesB.made (w1.alloc (hdX x.kind x.cells x.raw x.cnt col z)) x.raw
      simp only [World.size_alloc] at this
      exact this.congr fun i _ => if_neg (by omega)
  case round =>
    obtain ⟨i, hi, rfl, F2, X2, B2⟩ := hrel
    by_cases hix : i < x.raw
    · have hix' : (i : Int) < (x.raw : Int) := by omega
      unfold hdX at X2
      have x0 : wr.cell? ⟨w1.heap.size, 0, none⟩ = some (.int .i64 (x.kind : Nat)) := by simp [World.cell?, X2]
      have x1 : wr.cell? ⟨w1.heap.size, 1, none⟩ = some (.int .i64 (x.cells : Nat)) := by simp [World.cell?, X2]
      have x2 : wr.cell? ⟨w1.heap.size, 2, none⟩ = some (.int .i64 (x.raw : Nat)) := by simp [World.cell?, X2]
      have x3 : wr.cell? ⟨w1.heap.size, 3, none⟩ = some (.int .i64 (x.cnt : Nat)) := by simp [World.cell?, X2]
      have x4 : wr.cell? ⟨w1.heap.size, 4, none⟩ = some (.int .i64 (col : Nat)) := by simp [World.cell?, X2]
      have x5 : wr.cell? ⟨w1.heap.size, 5, none⟩ = some (.bool z) := by simp [World.cell?, X2]
      have x6 : wr.cell? ⟨w1.heap.size, 6, none⟩ = some (.bool false) := by simp [World.cell?, X2]
      have HF2 := Lib.hid F2
      have HX2 := Lib.hid X2
      have HB2 := Lib.hid B2
      clear F2 X2 B2
      go_wp2_with fail
      go_at_call 31
      refine (HRaw.out _ col i z hix).mono ?_
      rintro e w3 ⟨rfl, hb3⟩
      have F3 := HF2.out.below hb3
      have c3 := F3.cell0 c0
      have HF3 := Lib.hid F3
      have HX3 := Lib.hid ((hb3.block _ (lt_of_block HX2.out)).trans HX2.out)
      have HB3 := Lib.hid (HB2.out.of_eq (hb3.block _ HB2.out.lt))
      clear hb3 F3
      go_wp2_with fail
      go_at_call 29
      refine (HRd.out _ i hix HF3.out).mono ?_
      rintro e w4 ⟨rfl, rfl⟩
      have b3 := HB3.out.cell hix
      have f3 := HB3.out.free i
      have hby := HBy.out i hix
      generalize hval : (if i < i then x.byte i else 0) = v0 at b3
      have hg := Lib.hid (fun W j hj => HGet.out W i hix j hj)
      have HBI := Lib.hid (show ∀ j, j < x.raw → (if j < i + 1 then x.byte j else 0) = updN (fun j => if j < i then x.byte j else 0) i (x.byte i) j from fun j _ => by
        unfold updN
        by_cases h1 : j = i
        · subst h1; rw [if_pos (by omega), if_pos rfl]
        · rw [if_neg h1]
          by_cases h2 : j < i
          · rw [if_pos (by omega)]; exact (if_pos h2).symm
          · rw [if_neg (by omega)]; exact (if_neg h2).symm)
      generalize x.byte i = bi at hg hby HBI
      clear hval
      go_wp2_with fail
      go_at_call 32
      refine (hg.out _ _ (by omega)).mono ?_
      rintro e w5 ⟨rfl, m5, rfl⟩
      go_wp2_with fail
      have hb5 : BytesB (w3.drewN m5) (w1.heap.size + 1) x.raw (fun j => if j < i then x.byte j else 0) := HB3.out.of_eq rfl
      exact ⟨⟨i + 1, by omega, by go_num, (HF3.out.drewN m5).setCell _ _ (.inr (by show w.heap.size ≤ w1.heap.size + 1; omega)), (Below.heap_setCell _ _ _ _ (by show w1.heap.size ≠ w1.heap.size + 1; omega)).trans HX3.out, (hb5.set i bi).congr HBI.out⟩, by simp [intOf]; omega⟩
    · have hix' : ¬ (i : Int) < (x.raw : Int) := by omega
      obtain rfl : i = x.raw := by omega
      go_wp2_with fail
      go_ret2
      exact ⟨_, rfl, F2, by omega, B2.congr fun i hi => (if_pos hi).symm⟩
end Go.Proofs.Ytlpklloagaccoaa
