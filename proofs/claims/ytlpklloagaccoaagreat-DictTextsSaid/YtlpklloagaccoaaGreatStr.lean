/- Objects' raw bytes are read (object.raw, Raw). Conditions: the space is as one that was made. Objects' raw bytes are written (object.SetRaw), all of them at once. Conditions: as many bytes as there are. Bytes as strings; values that are compared; what may be given out while there is room. No condition. -/
import Derived.Test.YtlpklloagaccoaaGreatObSet
import Derived.Outline
import Derived.Test.YtlpklloagaccoaaGreatObPut
import Derived.Laws.BytesArg
namespace Go.Proofs.YtlpklloagaccoaaGreat
open Go.RowKit
set_option linter.unusedVariables false

theorem raw_any (h i : Int) (k c r n col a j : Nat) (z d : Bool) (w : World) (ha : h = a) (hi : i = j) (hc : c ≤ 4000) (ha4 : a ≤ 262144) (hj4 : j ≤ 8000) :
    Calls Tryz.prog 111 #[.int .i64 h, hdV k c r n col z d, .int .i64 i] w fun e w' => e = .returned (.tuple #[.int .i64 (a + 1 + 2 * c + j / 8 : Nat), .int .i64 (j % 8 * 8 : Nat)]) ∧ Below w.heap.size w w' := by
  subst ha hi
  have a0 : (0 : Int) ≤ (a : Int) := by omega
  have a4 : (a : Int) ≤ 262144 := by omega
  have c0 : (0 : Int) ≤ (c : Int) := by omega
  have c4 : (c : Int) ≤ 4000 := by omega
  have j0 : (0 : Int) ≤ (j : Int) := by omega
  have j4 : (j : Int) ≤ 8000 := by omega
  go_enter Tryz.func111, Tryz.ntmps111
  go_wp2
  go_ret2
  refine ⟨?_, (Below.refl _ _).alloc (Nat.le_refl _) _⟩
  first | rfl | (congr 3; omega)
/-- Block g is n bytes: f. -/
def BytesB (w : World) (g n : Nat) (f : Nat → Nat) : Prop :=
  ∃ cs : Array Value, w.heap[g]? = some (.cells cs 5 (0, 0)) ∧ cs.size = n ∧ ∀ i, i < n → cs[i]? = some (.int .u8 (f i : Nat))
theorem BytesB.cell {w : World} {g n : Nat} {m : Nat → Nat} (h : BytesB w g n m) {i : Nat} (hi : i < n) : w.cell? ⟨g, i, none⟩ = some (.int .u8 (m i : Nat)) := by
  obtain ⟨cs, h1, h2, h3⟩ := h
  simp [World.cell?, h1, h3 i hi]
theorem BytesB.free {w : World} {g n : Nat} {m : Nat → Nat} (h : BytesB w g n m) (i : Nat) : w.frozen? ⟨g, i, none⟩ = false := by
  obtain ⟨cs, h1, h2, h3⟩ := h
  simp [World.frozen?, h1]
theorem BytesB.of_eq {w w' : World} {g n : Nat} {m : Nat → Nat} (h : BytesB w g n m) (e : w'.heap[g]? = w.heap[g]?) : BytesB w' g n m :=
  let ⟨cs, h1, h2, h3⟩ := h; ⟨cs, e.trans h1, h2, h3⟩
theorem BytesB.lt {w : World} {g n : Nat} {m : Nat → Nat} (h : BytesB w g n m) : g < w.heap.size := let ⟨_, h1, _⟩ := h; lt_of_block h1
theorem BytesB.congr {w : World} {g n : Nat} {m m' : Nat → Nat} (h : BytesB w g n m) (e : ∀ i, i < n → m' i = m i) : BytesB w g n m' :=
  let ⟨cs, h1, h2, h3⟩ := h; ⟨cs, h1, h2, fun i hi => by rw [e i hi]; exact h3 i hi⟩
theorem BytesB.set {w : World} {g n : Nat} {m : Nat → Nat} (h : BytesB w g n m) (k v : Nat) : BytesB (w.setCell ⟨g, k, none⟩ (.int .u8 (v : Nat))) g n (updN m k v) := by
  obtain ⟨cs, h1, h2, h3⟩ := h
  refine ⟨_, heap_set h1 k _, by simpa using h2, fun i hi => ?_⟩
  unfold updN
  by_cases hk : i = k
  · subst hk; simp [h2, hi]
  · have hk' : ¬ k = i := fun e => hk e.symm
    rw [Array.getElem?_setIfInBounds]
    simp [hk', hk, h3 i hi]
theorem BytesB.made (w : World) (n : Nat) : BytesB (w.alloc (.cells (madeCells #[Value.int .u8 0] n) 5)) w.heap.size n (fun _ => 0) := by
  refine ⟨_, heap_alloc_new w _, by rw [size_madeCells], fun i hi => ?_⟩
  have h := toList_madeCells_one (.int .u8 0) n
  rw [← Array.getElem?_toList, h, List.getElem?_replicate]
  simp [hi]
theorem BytesB.keep {lo hi : Nat} {o o' : Own} {w w' : World} {g n : Nat} {m : Nat → Nat} (h : BytesB w g n m) (k : Fr lo hi o o' w w') (hr : o g < lo ∨ hi ≤ o g) : BytesB w' g n m := h.of_eq (k.block g h.lt hr)
theorem infoU8 : (Tryz.prog.info? 5).map (fun i => (i.zero, i.size, i.bytes)) = some (some (.int .u8 0), 1, 1) := by kernel_rfl
/-- A header in a block. -/
def hdX (k c r n col : Int) (z : Bool) : Obj := .cells #[.int .i64 k, .int .i64 c, .int .i64 r, .int .i64 n, .int .i64 col, .bool z, .bool false] 65
/-- Behind Raw. -/
def RawPost (o : Own) (w : World) (x : Ob) (e : Ending) (w' : World) : Prop :=
  ∃ g, e = .returned (.tuple #[.slice (some ⟨g, 0, none⟩) x.raw x.raw, .int .i64 0]) ∧ Fr 0 0 o o w w' ∧ w.heap.size ≤ g ∧ BytesB w' g x.raw x.byte
def RawRel (o : Own) (w : World) (x : Ob) (col : Nat) (z : Bool) (xb g i : Nat) (wr : World) : Prop :=
  Fr 0 0 o o w wr ∧ wr.heap[xb]? = some (hdX x.kind x.cells x.raw x.cnt col z) ∧ BytesB wr g x.raw (fun j => if j < i then x.byte j else 0)
set_option maxRecDepth 100000 in
set_option maxHeartbeats 2000000 in
theorem oraw_yes {o : Own} {r p : Nat} {L : Al} {ob : Int → Option Ob} (h : Int) (x : Ob) (w : World) (ho : Owned o w) (S : SpaceRep o w r p L ob) (hx : ob h = some x) :
    Calls Tryz.prog 60 #[.pointer (some ⟨p, 0, none⟩), .int .i64 h] w (RawPost o w x) := by
  have HHd := Lib.hid (fun (w1 : World) (F : Fr 0 0 o o w w1) => show Calls Tryz.prog 54 #[.pointer (some ⟨p, 0, none⟩), .int .i64 h] w1 fun e w' => ∃ (col : Nat) (z : Bool), e = .returned (.tuple #[hdV x.kind x.cells x.raw x.cnt col z false, .int .i64 0]) ∧ Fr 0 0 o o w w' from
    (ohead_yes h x w1 F.fresh (S.keep F (.inr (Nat.zero_le _))) hx).mono fun e w' h => by
      obtain ⟨c2, z2, _, h1, h2⟩ := h
      exact ⟨c2, z2, h1, F.below h2⟩)
  obtain ⟨pa, A, S⟩ := S
  obtain ⟨a, ha, h64, hrange, hat⟩ := S.ok.range hx
  have hrange : a + wordsN x.cells x.raw ≤ A.n * 64 := hrange
  have hw : wordsN x.cells x.raw = 1 + 2 * x.cells + (x.raw + 7) / 8 := rfl
  obtain ⟨g, q, l, b, v, f, AR⟩ := S.ar
  have hn4 := AR.n1
  have hml := AR.mlt
  have hc1 := hat.c1
  have hr1 := hat.r1
  have HRd := Lib.hid (fun (w1 : World) (i : Nat) (hi : i < x.raw) (F : Fr 0 0 o o w w1) => show Calls Tryz.prog 52 #[.pointer (some ⟨pa, 0, none⟩), .int .i64 (a + 1 + 2 * x.cells + i / 8 : Nat)] w1 fun e w' => e = .returned (.tuple #[.int .u64 (A.m (a + 1 + 2 * x.cells + i / 8) : Nat), .int .i64 0]) ∧ w1 = w' from
    aread_any _ (a + 1 + 2 * x.cells + i / 8) w1 (S.ar.keep F (.inr (Nat.zero_le _))) rfl (by omega))
  have HGet := Lib.hid (fun (w1 : World) (i : Nat) (hi : i < x.raw) (j : Int) (hj : j = (i % 8 * 8 : Nat)) => show Calls Tryz.prog 112 #[.int .u64 (A.m (a + 1 + 2 * x.cells + i / 8) : Nat), .int .i64 j, .int .i64 8] w1 fun e w' => e = .returned (.int .u64 (x.byte i : Nat)) ∧ ∃ m, w' = w1.drewN m from by
    subst hj
    have := get_nat (A.m (a + 1 + 2 * x.cells + i / 8)) (i % 8 * 8) 8 (hml _) (by omega) (by omega) w1
    rw [hat.bytes i hi] at this; exact this)
  have HRaw := Lib.hid (fun (w1 : World) (col i : Nat) (z : Bool) (hi : i < x.raw) => raw_any h i x.kind x.cells x.raw x.cnt col a i z false w1 ha rfl hc1 (by omega) (by omega))
  have HBy := Lib.hid hat.bok
  obtain ⟨i8, hi8, hz8, hs8, hb8⟩ : ∃ i, Tryz.prog.info? 5 = some i ∧ i.zero = some (.int .u8 0) ∧ i.size = 1 ∧ i.bytes = 1 := by
    have h := infoU8
    cases hp : Tryz.prog.info? 5 with
    | none => rw [hp] at h; cases h
    | some i => rw [hp] at h; simp only [Option.map_some, Option.some.injEq, Prod.mk.injEq] at h; exact ⟨i, rfl, h.1, h.2.1, h.2.2⟩
  have hmk : ∀ W : World, (Instr.makeSlice 42 (.int .i64 (x.raw : Nat)) (.int .i64 (x.raw : Nat))).run Tryz.prog W = .ok (.slice (some ⟨W.heap.size, 0, none⟩) x.raw x.raw) (W.alloc (.cells (madeCells #[Value.int .u8 0] x.raw) 5)) := fun W => by
    have := run_make (P := Tryz.prog) W 42 5 i8 (.int .u8 0) Tryz.underlying42 hi8 hz8 .i64 .i64 (x.raw : Nat) (x.raw : Nat) (by omega) (Int.le_refl _) (by rw [hb8]; omega) (by omega)
    rw [Int.toNat_natCast, hs8, Nat.mul_one] at this
    exact this
  have c0 := S.c0
  have HO := Lib.hid ho
  have hpl := S.blk.lt
  have hr4 : (x.raw : Int) ≤ 4000 := by omega
  have hr0 : (0 : Int) ≤ (x.raw : Int) := by omega
  clear S AR hx ha h64 hrange hat hw hn4 ho hi8 hz8 hs8 hb8 hml hc1 hr1
  go_enter Tryz.func60, Tryz.ntmps60
  go_wp2_with fail
  go_at_call 54
  refine (HHd.out _ (by repeat (first | exact Fr.refl HO.out | refine Fr.drew ?_ | refine Fr.alloc ?_ _))).mono ?_
  rintro e w1 ⟨col, z, rfl, F1⟩
  have c1 := F1.cell0 c0
  have hp1 : p < w1.heap.size := Nat.lt_of_lt_of_le hpl F1.size
  have hsz1 := F1.size
  have HF1 := Lib.hid F1
  clear F1
  go_wp2_with fail
  go_loopw [28] (fun iv wr => ∃ i : Nat, i ≤ x.raw ∧ iv = .int .i64 i ∧ RawRel o w x col z w1.heap.size (w1.heap.size + 1) i wr) (fun iv _ => x.raw - (intOf iv).toNat)
  case atStart =>
    refine ⟨0, by omega, rfl, (HF1.out.alloc _).alloc _, ?_, ?_⟩
    · exact (heap_alloc_old _ _ (by simp)).trans (heap_alloc_new w1 _)
    · have := BytesB.made (w1.alloc (hdX x.kind x.cells x.raw x.cnt col z)) x.raw
      simp only [World.size_alloc] at this
      exact this.congr fun i _ => if_neg (by omega)
  case round =>
    obtain ⟨i, hi, rfl, F2, X2, B2⟩ := hrel
    by_cases hix : i < x.raw
    · have hix' : (i : Int) < (x.raw : Int) := by omega
      unfold hdX at X2
      have x0 : wr.cell? ⟨w1.heap.size, 0, none⟩ = some (.int .i64 (x.kind : Nat)) := by simp [World.cell?, X2]
      have x1 : wr.cell? ⟨w1.heap.size, 1, none⟩ = some (.int .i64 (x.cells : Nat)) := by simp [World.cell?, X2]
      have x2 : wr.cell? ⟨w1.heap.size, 2, none⟩ = some (.int .i64 (x.raw : Nat)) := by simp [World.cell?, X2]
      have x3 : wr.cell? ⟨w1.heap.size, 3, none⟩ = some (.int .i64 (x.cnt : Nat)) := by simp [World.cell?, X2]
      have x4 : wr.cell? ⟨w1.heap.size, 4, none⟩ = some (.int .i64 (col : Nat)) := by simp [World.cell?, X2]
      have x5 : wr.cell? ⟨w1.heap.size, 5, none⟩ = some (.bool z) := by simp [World.cell?, X2]
      have x6 : wr.cell? ⟨w1.heap.size, 6, none⟩ = some (.bool false) := by simp [World.cell?, X2]
      have HF2 := Lib.hid F2
      have HX2 := Lib.hid X2
      have HB2 := Lib.hid B2
      clear F2 X2 B2
      go_wp2_with fail
      go_at_call 111
      refine (HRaw.out _ col i z hix).mono ?_
      rintro e w3 ⟨rfl, hb3⟩
      have F3 := HF2.out.below hb3
      have c3 := F3.cell0 c0
      have HF3 := Lib.hid F3
      have HX3 := Lib.hid ((hb3.block _ (lt_of_block HX2.out)).trans HX2.out)
      have HB3 := Lib.hid (HB2.out.of_eq (hb3.block _ HB2.out.lt))
      clear hb3 F3
      go_wp2_with fail
      go_at_call 52
      refine (HRd.out _ i hix HF3.out).mono ?_
      rintro e w4 ⟨rfl, rfl⟩
      have b3 := HB3.out.cell hix
      have f3 := HB3.out.free i
      have hby := HBy.out i hix
      generalize hval : (if i < i then x.byte i else 0) = v0 at b3
      have hg := Lib.hid (fun W j hj => HGet.out W i hix j hj)
      have HBI := Lib.hid (show ∀ j, j < x.raw → (if j < i + 1 then x.byte j else 0) = updN (fun j => if j < i then x.byte j else 0) i (x.byte i) j from fun j _ => by
        unfold updN
        by_cases h1 : j = i
        · subst h1; rw [if_pos (by omega), if_pos rfl]
        · rw [if_neg h1]
          by_cases h2 : j < i
          · rw [if_pos (by omega)]; exact (if_pos h2).symm
          · rw [if_neg (by omega)]; exact (if_neg h2).symm)
      generalize x.byte i = bi at hg hby HBI
      clear hval
      go_wp2_with fail
      go_at_call 112
      refine (hg.out _ _ (by omega)).mono ?_
      rintro e w5 ⟨rfl, m5, rfl⟩
      go_wp2_with fail
      have hb5 : BytesB (w3.drewN m5) (w1.heap.size + 1) x.raw (fun j => if j < i then x.byte j else 0) := HB3.out.of_eq rfl
      exact ⟨⟨i + 1, by omega, by go_num, (HF3.out.drewN m5).setCell _ _ (.inr (by show w.heap.size ≤ w1.heap.size + 1; omega)), (Below.heap_setCell _ _ _ _ (by show w1.heap.size ≠ w1.heap.size + 1; omega)).trans HX3.out, (hb5.set i bi).congr HBI.out⟩, by simp [intOf]; omega⟩
    · have hix' : ¬ (i : Int) < (x.raw : Int) := by omega
      obtain rfl : i = x.raw := by omega
      go_wp2_with fail
      go_ret2
      exact ⟨_, rfl, F2, by omega, B2.congr fun i hi => (if_pos hi).symm⟩
end Go.Proofs.YtlpklloagaccoaaGreat
namespace Go.Proofs.YtlpklloagaccoaaGreat
open Go.RowKit
set_option linter.unusedVariables false

theorem putv_testBit (w a n v j : Nat) : (putv w a n v).testBit j = if j < a then w.testBit j else if j < a + n then v.testBit (j - a) else w.testBit j := by
  unfold putv
  rw [Nat.testBit_two_pow_mul_add _ (Nat.mod_lt _ (Nat.two_pow_pos _)), Nat.testBit_two_pow_mul_add _ (Nat.mod_lt _ (Nat.two_pow_pos _)), Nat.testBit_mod_two_pow, Nat.testBit_mod_two_pow, Nat.testBit_div_two_pow]
  by_cases h1 : j < a
  · simp [h1]
  · by_cases h2 : j - a < n
    · have h3 : j < a + n := by omega
      simp [h1, h2, h3]
    · have h3 : ¬ j < a + n := by omega
      have h4 : j - a - n + (a + n) = j := by omega
      simp [h1, h2, h3, h4]
theorem getv_testBit (w a n j : Nat) : (getv w a n).testBit j = (decide (j < n) && w.testBit (j + a)) := by
  unfold getv; rw [Nat.testBit_mod_two_pow, Nat.testBit_div_two_pow]
theorem getv_putv_same (w a v : Nat) (hv : v < 256) : getv (putv w a 8 v) a 8 = v := by
  apply Nat.eq_of_testBit_eq
  intro j
  rw [getv_testBit, putv_testBit]
  by_cases h : j < 8
  · rw [if_neg (by omega), if_pos (by omega)]; simp [h]
  · have : v.testBit j = false := Nat.testBit_lt_two_pow (Nat.lt_of_lt_of_le hv (show 2 ^ 8 ≤ 2 ^ j from Nat.pow_le_pow_right (by decide) (by omega)))
    simp [h, this]
theorem getv_putv_other (w a b v : Nat) (hab : b + 8 ≤ a ∨ a + 8 ≤ b) : getv (putv w a 8 v) b 8 = getv w b 8 := by
  apply Nat.eq_of_testBit_eq
  intro j
  rw [getv_testBit, getv_testBit, putv_testBit]
  by_cases h : j < 8
  · by_cases h1 : j + b < a
    · rw [if_pos h1]
    · rw [if_neg h1, if_neg (by omega)]
  · simp [h]
def setByte (x : Ob) (j v : Nat) : Ob := { x with byte := updN x.byte j v }
def byteAt (a : Nat) (x : Ob) (j : Nat) : Nat := a + 1 + 2 * x.cells + j / 8
def byteM (m : Nat → Nat) (a : Nat) (x : Ob) (j v : Nat) : Nat → Nat := updN m (byteAt a x j) (putv (m (byteAt a x j)) (j % 8 * 8) 8 v)
theorem ObAt.setByte {m : Nat → Nat} {a : Nat} {x : Ob} (h : ObAt m a x) (j v : Nat) (hj : j < x.raw) (hv : v < 256) : ObAt (byteM m a x j v) a (Proofs.YtlpklloagaccoaaGreat.setByte x j v) := by
  have e : ∀ i, i ≠ byteAt a x j → byteM m a x j v i = m i := fun i h1 => by unfold byteM updN; rw [if_neg h1]
  have hb : byteAt a x j = a + 1 + 2 * x.cells + j / 8 := rfl
  refine ⟨?_, fun i hi => ?_, h.vok, fun i hi => ?_, fun i hi => ?_, h.k1, h.c1, h.r1, h.n1⟩
  · obtain ⟨col, z, h1, h2⟩ := h.hd
    exact ⟨col, z, h1, by rw [e a (by omega)]; exact h2⟩
  · have hi' : i < x.cells := hi
    rw [e _ (by omega), e _ (by omega)]; exact h.vals i hi
  · show getv (byteM m a x j v (a + 1 + 2 * x.cells + i / 8)) (i % 8 * 8) 8 = updN x.byte j v i
    have hi' : i < x.raw := hi
    unfold updN
    by_cases hij : i = j
    · subst hij
      rw [if_pos rfl]
      show getv (updN m (byteAt a x i) _ (a + 1 + 2 * x.cells + i / 8)) _ _ = v
      unfold updN
      rw [if_pos hb.symm]
      exact getv_putv_same _ _ _ hv
    · rw [if_neg hij]
      by_cases hq : i / 8 = j / 8
      · show getv (updN m (byteAt a x j) _ (a + 1 + 2 * x.cells + i / 8)) _ _ = _
        unfold updN
        rw [if_pos (by rw [hb, hq]), getv_putv_other _ _ _ _ (by omega), hb, ← hq]
        exact h.bytes i hi
      · rw [e _ (by omega)]; exact h.bytes i hi
  · show updN x.byte j v i < 256
    unfold updN
    split
    · exact hv
    · exact h.bok i hi
/-- A slice of bytes that can be read; nobody owns them. -/
def BSl (o : Own) (w : World) (v : Value) (n : Nat) (f : Nat → Nat) : Prop :=
  ∃ a cap, v = .slice a n cap ∧ n ≤ cap ∧ (∀ i, i < n → f i < 256) ∧ (n = 0 ∨ ∃ g off, a = some ⟨g, off, none⟩ ∧ g < w.heap.size ∧ (o g = 0 ∨ o g = 99) ∧ ∀ i, i < n → w.cell? ⟨g, off + i, none⟩ = some (.int .u8 (f i : Nat)))
theorem BSl.keep {lo hi : Nat} {o o' : Own} {w w' : World} {v : Value} {n : Nat} {f : Nat → Nat} (h : BSl o w v n f) (k : Fr lo hi o o' w w') (hr : (0 < lo ∧ hi ≤ 99) ∨ hi = 0) : BSl o' w' v n f := by
  obtain ⟨a, cap, h1, h2, h3, h4⟩ := h
  refine ⟨a, cap, h1, h2, h3, ?_⟩
  rcases h4 with h4 | ⟨g, off, h5, h6, h7, h8⟩
  · exact .inl h4
  · exact .inr ⟨g, off, h5, Nat.lt_of_lt_of_le h6 k.size, by rw [k.own g h6]; exact h7, fun i hi => by rw [World.cell?_of_block (k.block g h6 (by omega))]; exact h8 i hi⟩
def withBytes (x : Ob) (f : Nat → Nat) (i : Nat) : Ob := { x with byte := fun j => if j < i then f j else x.byte j }
theorem withBytes_zero (x : Ob) (f : Nat → Nat) : withBytes x f 0 = x := by
  unfold withBytes; simp
theorem withBytes_succ (x : Ob) (f : Nat → Nat) (i : Nat) : setByte (withBytes x f i) i (f i) = withBytes x f (i + 1) := by
  unfold setByte withBytes updN
  congr 1
  funext j
  by_cases h : j = i
  · subst h; rw [if_pos rfl, if_pos (by omega)]
  · rw [if_neg h]
    by_cases h2 : j < i
    · rw [if_pos (by omega)]; exact if_pos h2
    · rw [if_neg (by omega)]; exact if_neg h2
theorem updI_twice {α : Type} (f : Int → α) (k : Int) (a b : α) : updI (updI f k a) k b = updI f k b := by
  funext i; unfold updI; split <;> rfl
theorem updI_same {α : Type} (f : Int → α) (k : Int) (a : α) (h : f k = a) : updI f k a = f := by
  funext i; unfold updI; split
  · rename_i e; rw [e, h]
  · rfl
set_option maxRecDepth 100000 in
set_option maxHeartbeats 2000000 in
theorem osetraw_all {o : Own} {r p : Nat} {L : Al} {ob : Int → Option Ob} (h : Int) (x : Ob) (v : Value) (f : Nat → Nat) (w : World) (hr : 1 ≤ r) (hr2 : r + 16 ≤ 99) (ho : Owned o w) (S : SpaceRep o w r p L ob) (hx : ob h = some x) (B : BSl o w v x.raw f) :
    Calls Tryz.prog 62 #[.pointer (some ⟨p, 0, none⟩), .int .i64 h, .int .i64 0, v] w (SpPost o w r p L (updI ob h (some (withBytes x f x.raw))) (.int .i64 0)) := by
  have HHd := Lib.hid (fun (w1 : World) (F : Fr 0 0 o o w w1) => show Calls Tryz.prog 54 #[.pointer (some ⟨p, 0, none⟩), .int .i64 h] w1 fun e w' => ∃ (col : Nat) (z : Bool), e = .returned (.tuple #[hdV x.kind x.cells x.raw x.cnt col z false, .int .i64 0]) ∧ Fr 0 0 o o w w' from
    (ohead_yes h x w1 F.fresh (S.keep F (.inr (Nat.zero_le _))) hx).mono fun e w' h => by
      obtain ⟨c2, z2, _, h1, h2⟩ := h
      exact ⟨c2, z2, h1, F.below h2⟩)
  have HS0 := Lib.hid S
  obtain ⟨pa0, A0, S⟩ := S
  obtain ⟨a, ha, h64, hrange, hat⟩ := S.ok.range hx
  have c0 := S.c0
  have hr1 := hat.r1
  have hc1 := hat.c1
  have HX := Lib.hid hx
  have HA := Lib.hid ha
  have HB0 := Lib.hid B
  obtain ⟨sa, scap, hv, hcap, hf8, hcells⟩ := B
  subst hv
  have HO := Lib.hid ho
  have HF8 := Lib.hid hf8
  have hpl := S.blk.lt
  have hr4 : (x.raw : Int) ≤ 4000 := by omega
  have hr0 : (0 : Int) ≤ (x.raw : Int) := by omega
  have HC1 := Lib.hid hc1
  have HR1 := Lib.hid hr1
  clear S hx ha h64 hrange hat ho hf8 hcells hc1 hr1
  go_enter Tryz.func62, Tryz.ntmps62
  go_wp2_with fail
  go_at_call 54
  refine (HHd.out _ (by repeat (first | exact Fr.refl HO.out | refine Fr.drew ?_ | refine Fr.alloc ?_ _))).mono ?_
  rintro e w1 ⟨col, z, rfl, F1⟩
  have hsz1 := F1.size
  have HF1 := Lib.hid F1
  clear F1
  go_wp2_with fail
  obtain ⟨w2, hw2⟩ : ∃ w2, w2 = w1.alloc (hdX x.kind x.cells x.raw x.cnt col z) := ⟨_, rfl⟩
  have HF2 := Lib.hid (show Fr 0 0 o o w w2 by rw [hw2]; exact HF1.out.alloc _)
  have HX2 := Lib.hid (show w2.heap[w1.heap.size]? = some (hdX x.kind x.cells x.raw x.cnt col z) by rw [hw2]; exact heap_alloc_new w1 _)
  unfold hdX at hw2
  rw [← hw2]
  clear hw2
  go_loopw [39] (fun iv wr => ∃ i : Nat, i ≤ x.raw ∧ iv = .int .i64 i ∧ ∃ oi, Fr r (r + 16) o oi w2 wr ∧ SpaceRep oi wr r p L (updI ob h (some (withBytes x f i)))) (fun iv _ => x.raw - (intOf iv).toNat)
  case atStart =>
    refine ⟨0, by omega, rfl, o, Fr.refl HF2.out.fresh, ?_⟩
    rw [withBytes_zero, updI_same _ _ _ HX.out]
    exact HS0.out.keep HF2.out (.inr (Nat.zero_le _))
  case round =>
    obtain ⟨i, hi, rfl, oi, F3, hS3⟩ := hrel
    by_cases hix : i < x.raw
    · have hix' : (i : Int) < (x.raw : Int) := by omega
      obtain ⟨pa, A, S⟩ := hS3
      obtain ⟨a', ha', h64, hrange, hat⟩ := S.ok.range (show updI ob h (some (withBytes x f i)) h = some (withBytes x f i) from if_pos rfl)
      have haa : a' = a := by have := HA.out; omega
      subst haa
      have hrange : a' + wordsN x.cells x.raw ≤ A.n * 64 := hrange
      have hw : wordsN x.cells x.raw = 1 + 2 * x.cells + (x.raw + 7) / 8 := rfl
      obtain ⟨g, q, l, b, v, ff, AR⟩ := S.ar
      have hn4 := AR.n1
      have hml := AR.mlt
      have hobx : o w1.heap.size = 0 := HO.out _ hsz1
      have X3 := (F3.block _ (lt_of_block HX2.out) (.inl (by rw [hobx]; omega))).trans HX2.out
      unfold hdX at X3
      have x0 : wr.cell? ⟨w1.heap.size, 0, none⟩ = some (.int .i64 (x.kind : Nat)) := by simp [World.cell?, X3]
      have x1 : wr.cell? ⟨w1.heap.size, 1, none⟩ = some (.int .i64 (x.cells : Nat)) := by simp [World.cell?, X3]
      have x2 : wr.cell? ⟨w1.heap.size, 2, none⟩ = some (.int .i64 (x.raw : Nat)) := by simp [World.cell?, X3]
      have x3 : wr.cell? ⟨w1.heap.size, 3, none⟩ = some (.int .i64 (x.cnt : Nat)) := by simp [World.cell?, X3]
      have x4 : wr.cell? ⟨w1.heap.size, 4, none⟩ = some (.int .i64 (col : Nat)) := by simp [World.cell?, X3]
      have x5 : wr.cell? ⟨w1.heap.size, 5, none⟩ = some (.bool z) := by simp [World.cell?, X3]
      have x6 : wr.cell? ⟨w1.heap.size, 6, none⟩ = some (.bool false) := by simp [World.cell?, X3]
      obtain ⟨sa', scap', hv', hcap', hf8', hcells⟩ := (HB0.out.keep HF2.out (.inr rfl)).keep F3 (.inl ⟨by omega, by omega⟩)
      have e1 : sa' = sa ∧ scap' = scap := by cases hv'; exact ⟨rfl, rfl⟩
      obtain ⟨rfl, rfl⟩ := e1
      rcases hcells with hcells | ⟨sg, soff, rfl, sg1, sg2, sg3⟩
      · omega
      have cb := sg3 i hix
      have hfi := HF8.out i hix
      have HRd := Lib.hid (fun (w4 : World) (F : Fr 0 0 oi oi wr w4) => show Calls Tryz.prog 52 #[.pointer (some ⟨pa, 0, none⟩), .int .i64 (a' + 1 + 2 * x.cells + i / 8 : Nat)] w4 fun e w' => e = .returned (.tuple #[.int .u64 (A.m (a' + 1 + 2 * x.cells + i / 8) : Nat), .int .i64 0]) ∧ w4 = w' from
        aread_any _ (a' + 1 + 2 * x.cells + i / 8) w4 (S.ar.keep F (.inr (Nat.zero_le _))) rfl (by omega))
      have HRaw := Lib.hid (fun (w4 : World) (j : Int) (hj : j = (i : Nat)) => raw_any h j x.kind x.cells x.raw x.cnt col a' i z false w4 HA.out hj HC1.out (by omega) (by omega))
      have HPut := Lib.hid (fun (w4 : World) (j vv : Int) (hj : j = (i % 8 * 8 : Nat)) (hvv : vv = (f i : Nat)) => show Calls Tryz.prog 114 #[.int .u64 (A.m (a' + 1 + 2 * x.cells + i / 8) : Nat), .int .i64 j, .int .i64 8, .int .u64 vv] w4 fun e w' => e = .returned (.int .u64 (putv (A.m (a' + 1 + 2 * x.cells + i / 8)) (i % 8 * 8) 8 (f i) : Nat)) ∧ w4 = w' from by
        subst hj hvv
        exact put_nat (A.m (a' + 1 + 2 * x.cells + i / 8)) (i % 8 * 8) 8 (f i) (hml _) (by omega) (by omega) (by omega) w4)
      have HWr := Lib.hid (fun (w4 : World) (j : Int) (hj : j = (a' + 1 + 2 * x.cells + i / 8 : Nat)) (F : Fr 0 0 oi oi wr w4) => show Calls Tryz.prog 53 #[.pointer (some ⟨pa, 0, none⟩), .int .i64 j, .int .u64 (putv (A.m (a' + 1 + 2 * x.cells + i / 8)) (i % 8 * 8) 8 (f i) : Nat)] w4 fun e w' => e = .returned (.int .i64 0) ∧ ∃ o', Fr r (r + 16) o o' w2 w' ∧ SpaceRep o' w' r p L (updI ob h (some (withBytes x f (i + 1)))) from
        (awrite_any j (a' + 1 + 2 * x.cells + i / 8) _ w4 F.fresh (S.ar.keep F (.inr (Nat.zero_le _))) hj (by omega) (putv_lt (hml _) (by omega) (by omega))).mono fun e w' hh => by
          obtain ⟨h1, o', F5, A5⟩ := hh
          have T := S.turn (x := withBytes x f i) (y := setByte (withBytes x f i) i (f i)) (m := byteM A.m a' (withBytes x f i) i (f i)) (if_pos rfl) HA.out rfl rfl (fun k hk => by
            unfold byteM updN
            rw [if_neg]
            intro e
            have hb : byteAt a' (withBytes x f i) i = a' + 1 + 2 * x.cells + i / 8 := rfl
            have hwx : wordsN (withBytes x f i).cells (withBytes x f i).raw = wordsN x.cells x.raw := rfl
            omega) (hat.setByte i (f i) hix hfi) ((S.blk.keep F (.inr (Nat.zero_le _))).keep F5 (by omega)) A5
          rw [updI_twice, withBytes_succ] at T
          exact ⟨h1, o', (F3.trans (F.none r (r + 16))).trans (F5.mono (by omega) (by omega)), pa, _, T⟩)
      have c3 := S.c0
      have hp3 := S.blk.lt
      have HFR := Lib.hid (Fr.refl (lo := 0) (hi := 0) F3.fresh)
      have hi0 : (0 : Int) ≤ (i : Int) := by omega
      have hatn : ((a' + 1 + 2 * x.cells + i / 8 : Nat) : Int) ≤ 262144 := by omega
      generalize A.m (a' + 1 + 2 * x.cells + i / 8) = wd at HRd HPut HWr
      generalize putv wd (i % 8 * 8) 8 (f i) = wd2 at HPut HWr
      clear S AR hat h64 ha' hrange hw hn4 hml X3 sg3 F3
      go_wp2_with fail
      go_at_call 111
      refine (HRaw.out _ _ rfl).mono ?_
      rintro e w4 ⟨rfl, hb4⟩
      have F4 := HFR.out.below hb4
      have c4 := F4.cell0 c3
      have hp4 : p < w4.heap.size := Nat.lt_of_lt_of_le hp3 F4.size
      have HF4 := Lib.hid F4
      clear hb4 F4
      go_wp2_with fail
      go_at_call 52
      refine (HRd.out _ HF4.out).mono ?_
      rintro e w5 ⟨rfl, rfl⟩
      go_wp2_with fail
      go_region_with (first
        | (go_at_call 114; refine (HPut.out _ _ _ (by omega) (by rw [IntKind.wrap_u64]; omega)).mono ?_; rintro e w6 ⟨rfl, rfl⟩)
        | (go_at_call 53; refine (HWr.out _ _ (by omega) (by repeat (first | exact HF4.out | refine Fr.drew ?_))).mono ?_; rintro e w7 ⟨rfl, o7, F7, S7⟩; have HF7 := Lib.hid F7; clear F7; have HS7 := Lib.hid S7; clear S7))
      all_goals
        go_wp2_with fail
        exact ⟨⟨i + 1, by omega, by go_num, o7, HF7.out, HS7.out⟩, by simp [intOf]; omega⟩
    · have hix' : ¬ (i : Int) < (x.raw : Int) := by omega
      obtain rfl : i = x.raw := by omega
      go_wp2_with fail
      go_ret
      exact ⟨rfl, oi, (HF2.out.none r (r + 16)).trans F3, hS3⟩
end Go.Proofs.YtlpklloagaccoaaGreat
namespace Go.Proofs.YtlpklloagaccoaaGreat
open Go.RowKit
set_option linter.unusedVariables false

def bytesL (n : Nat) (f : Nat → Nat) : List Int := (List.range n).map fun i => (f i : Int)
theorem bytesL_length (n : Nat) (f : Nat → Nat) : (bytesL n f).length = n := by simp [bytesL]
theorem bytesL_getD (n : Nat) (f : Nat → Nat) {i : Nat} (h : i < n) : (bytesL n f).getD i 0 = (f i : Int) := by simp [bytesL, List.getD, h]
/-- A string of bytes. -/
def strB (n : Nat) (f : Nat → Nat) : ByteArray := strOfNums (bytesL n f)
theorem strB_congr {n : Nat} {f f' : Nat → Nat} (h : ∀ i, i < n → f' i = f i) : strB n f' = strB n f := by
  unfold strB bytesL
  congr 1
  apply List.map_congr_left
  intro i hi
  rw [h i (by simpa using hi)]
theorem BytesB.conv {w : World} {g n : Nat} {f : Nat → Nat} (B : BytesB w g n f) (cap : Nat) : (convert 42 9 (.slice (some ⟨g, 0, none⟩) n cap)).run Tryz.prog w = .ok (.string (strB n f)) w :=
  run_convert_bytes_arg w 42 5 Tryz.underlying42 Tryz.underlying5 g 0 n cap (bytesL n f) (bytesL_length n f) (fun i hi => by rw [Nat.zero_add, B.cell hi, bytesL_getD n f hi]) 9 Tryz.underlying9
theorem eqlV (ak an bk bn : Int) (w : World) : (binOp .eql 30 (.agg #[.int .i64 ak, .int .i64 an]) (.agg #[.int .i64 bk, .int .i64 bn])).run Tryz.prog w = .ok (.bool (ak == bk && an == bn)) w := by
  have hp : Tryz.prog.stoodInHeld 30 = false := by kernel_rfl
  by_cases h1 : ak = bk <;> by_cases h2 : an = bn <;> simp [go_sem, part, h1, h2, hp]
theorem tookL_room (L : Al) (n : Nat) (h : L.t + (n / 64 + 1) ≤ L.n) : ∃ L' a, tookL L n = some (L', a) ∧ L'.t ≤ L.t + (n / 64 + 1) ∧ L.t ≤ L'.t := by
  unfold tookL
  by_cases h5 : classN n = 5
  · rw [if_pos h5, if_pos h]; exact ⟨_, _, rfl, Nat.le_refl _, Nat.le_add_right _ _⟩
  · rw [if_neg h5]
    by_cases hj : (L.cur (classN n)).2 < perN (classN n)
    · rw [if_pos hj]; exact ⟨_, _, rfl, Nat.le_add_right _ _, Nat.le_refl _⟩
    · rw [if_neg hj, if_pos (by omega)]; exact ⟨_, _, rfl, by show L.t + 1 ≤ _; omega, by show L.t ≤ L.t + 1; omega⟩
end Go.Proofs.YtlpklloagaccoaaGreat
