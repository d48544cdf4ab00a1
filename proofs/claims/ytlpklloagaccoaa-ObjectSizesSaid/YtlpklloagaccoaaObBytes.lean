/- Objects' raw bytes are written (object.SetRaw), all of them at once. Conditions: as many bytes as there are. -/
import Derived.Test.YtlpklloagaccoaaObRaw
import Derived.Test.YtlpklloagaccoaaObPut
import Derived.Outline
namespace Go.Proofs.Ytlpklloagaccoaa
open Go.RowKit
set_option linter.unusedVariables false

theorem putv_testBit (w a n v j : Nat) : (putv w a n v).testBit j = if j < a then w.testBit j else if j < a + n then v.testBit (j - a) else w.testBit j := by
  unfold putv
  rw [Nat.testBit_two_pow_mul_add _ (Nat.mod_lt _ (Nat.two_pow_pos _)), Nat.testBit_two_pow_mul_add _ (Nat.mod_lt _ (Nat.two_pow_pos _)), Nat.testBit_mod_two_pow, Nat.testBit_mod_two_pow, Nat.testBit_div_two_pow]
  by_cases h1 : j < a
  · simp [h1]
  · by_cases h2 : j - a < n
    · have h3 : j < a + n := by omega
      simp [h1, h2, h3]
    · have h3 : ¬ j < a + n := by omega
      have h4 : j - a - n + (a + n) = j := by omega
      simp [h1, h2, h3, h4]
theorem getv_testBit (w a n j : Nat) : (getv w a n).testBit j = (decide (j < n) && w.testBit (j + a)) := by
  unfold getv; rw [Nat.testBit_mod_two_pow, Nat.testBit_div_two_pow]
theorem getv_putv_same (w a v : Nat) (hv : v < 256) : getv (putv w a 8 v) a 8 = v := by
  apply Nat.eq_of_testBit_eq
  intro j
  rw [getv_testBit, putv_testBit]
  by_cases h : j < 8
  · rw [if_neg (by omega), if_pos (by omega)]; simp [h]
  · have : v.testBit j = false := Nat.testBit_lt_two_pow (Nat.lt_of_lt_of_le hv (show 2 ^ 8 ≤ 2 ^ j from Nat.pow_le_pow_right (by decide) (by omega)))
    simp [h, this]
theorem getv_putv_other (w a b v : Nat) (hab : b + 8 ≤ a ∨ a + 8 ≤ b) : getv (putv w a 8 v) b 8 = getv w b 8 := by
  apply Nat.eq_of_testBit_eq
  intro j
  rw [getv_testBit, getv_testBit, putv_testBit]
  by_cases h : j < 8
  · by_cases h1 : j + b < a
    · rw [if_pos h1]
    · rw [if_neg h1, if_neg (by omega)]
  · simp [h]
def setByte (x : Ob) (j v : Nat) : Ob := { x with byte := updN x.byte j v }
def byteAt (a : Nat) (x : Ob) (j : Nat) : Nat := a + 1 + 2 * x.cells + j / 8
def byteM (m : Nat → Nat) (a : Nat) (x : Ob) (j v : Nat) : Nat → Nat := updN m (byteAt a x j) (putv (m (byteAt a x j)) (j % 8 * 8) 8 v)
theorem ObAt.setByte {m : Nat → Nat} {a : Nat} {x : Ob} (h : ObAt m a x) (j v : Nat) (hj : j < x.raw) (hv : v < 256) : ObAt (byteM m a x j v) a (Proofs.Ytlpklloagaccoaa.setByte x j v) := by
  have e : ∀ i, i ≠ byteAt a x j → byteM m a x j v i = m i := fun i h1 => by unfold byteM updN; rw [if_neg h1]
  have hb : byteAt a x j = a + 1 + 2 * x.cells + j / 8 := rfl
  refine ⟨?_, fun i hi => ?_, h.vok, fun i hi => ?_, fun i hi => ?_, h.k1, h.c1, h.r1, h.n1⟩
  · obtain ⟨col, z, h1, h2⟩ := h.hd
    exact ⟨col, z, h1, by rw [e a (by omega)]; exact h2⟩
  · have hi' : i < x.cells := hi
    rw [e _ (by omega), e _ (by omega)]; exact h.vals i hi
  · show getv (byteM m a x j v (a + 1 + 2 * x.cells + i / 8)) (i % 8 * 8) 8 = updN x.byte j v i
    have hi' : i < x.raw := hi
    unfold updN
    by_cases hij : i = j
    · subst hij
      rw [if_pos rfl]
      show getv (updN m (byteAt a x i) _ (a + 1 + 2 * x.cells + i / 8)) _ _ = v
      unfold updN
      rw [if_pos hb.symm]
      exact getv_putv_same _ _ _ hv
    · rw [if_neg hij]
      by_cases hq : i / 8 = j / 8
      · show getv (updN m (byteAt a x j) _ (a + 1 + 2 * x.cells + i / 8)) _ _ = _
        unfold updN
        rw [if_pos (by rw [hb, hq]), getv_putv_other _ _ _ _ (by omega), hb, ← hq]
        exact h.bytes i hi
      · rw [e _ (by omega)]; exact h.bytes i hi
  · show updN x.byte j v i < 256
    unfold updN
    split
    · exact hv
    · exact h.bok i hi
/-- A slice of bytes that can be read; nobody owns them. -/
def BSl (o : Own) (w : World) (v : Value) (n : Nat) (f : Nat → Nat) : Prop :=
  ∃ a cap, v = .slice a n cap ∧ n ≤ cap ∧ (∀ i, i < n → f i < 256) ∧ (n = 0 ∨ ∃ g off, a = some ⟨g, off, none⟩ ∧ g < w.heap.size ∧ o g = 0 ∧ ∀ i, i < n → w.cell? ⟨g, off + i, none⟩ = some (.int .u8 (f i : Nat)))
theorem BSl.keep {lo hi : Nat} {o o' : Own} {w w' : World} {v : Value} {n : Nat} {f : Nat → Nat} (h : BSl o w v n f) (k : Fr lo hi o o' w w') (hr : 0 < lo ∨ hi = 0) : BSl o' w' v n f := by
  obtain ⟨a, cap, h1, h2, h3, h4⟩ := h
  refine ⟨a, cap, h1, h2, h3, ?_⟩
  rcases h4 with h4 | ⟨g, off, h5, h6, h7, h8⟩
  · exact .inl h4
  · exact .inr ⟨g, off, h5, Nat.lt_of_lt_of_le h6 k.size, (k.own g h6).trans h7, fun i hi => by rw [World.cell?_of_block (k.block g h6 (by rw [h7]; omega))]; exact h8 i hi⟩
def withBytes (x : Ob) (f : Nat → Nat) (i : Nat) : Ob := { x with byte := fun j => if j < i then f j else x.byte j }
theorem withBytes_zero (x : Ob) (f : Nat → Nat) : withBytes x f 0 = x := by
  unfold withBytes; simp
theorem withBytes_succ (x : Ob) (f : Nat → Nat) (i : Nat) : setByte (withBytes x f i) i (f i) = withBytes x f (i + 1) := by
  unfold setByte withBytes updN
  congr 1
  funext j
  by_cases h : j = i
  · subst h; rw [if_pos rfl, if_pos (by omega)]
  · rw [if_neg h]
    by_cases h2 : j < i
    · rw [if_pos (by omega)]; exact if_pos h2
    · rw [if_neg (by omega)]; exact if_neg h2
theorem updI_twice {α : Type} (f : Int → α) (k : Int) (a b : α) : updI (updI f k a) k b = updI f k b := by
  funext i; unfold updI; split <;> rfl
theorem updI_same {α : Type} (f : Int → α) (k : Int) (a : α) (h : f k = a) : updI f k a = f := by
  funext i; unfold updI; split
  · rename_i e; rw [e, h]
  · rfl
set_option maxRecDepth 100000 in
set_option maxHeartbeats 2000000 in
theorem osetraw_all {o : Own} {r p : Nat} {L : Al} {ob : Int → Option Ob} (h : Int) (x : Ob) (v : Value) (f : Nat → Nat) (w : World) (hr : 1 ≤ r) (ho : Owned o w) (S : SpaceRep o w r p L ob) (hx : ob h = some x) (B : BSl o w v x.raw f) :
    Calls Try.prog 59 #[.pointer (some ⟨p, 0, none⟩), .int .i64 h, .int .i64 0, v] w (SpPost o w r p L (updI ob h (some (withBytes x f x.raw))) (.int .i64 0)) := by
  have HHd := Lib.hid (fun (w1 : World) (F : Fr 0 0 o o w w1) => show Calls Try.prog 30 #[.pointer (some ⟨p, 0, none⟩), .int .i64 h] w1 fun e w' => ∃ (col : Nat) (z : Bool), e = .returned (.tuple #[hdV x.kind x.cells x.raw x.cnt col z false, .int .i64 0]) ∧ Fr 0 0 o o w w' from
    (ohead_yes h x w1 F.fresh (S.keep F (.inr (Nat.zero_le _))) hx).mono fun e w' h => by
      obtain ⟨c2, z2, _, h1, h2⟩ := h
      exact ⟨c2, z2, h1, F.below h2⟩)
  have HS0 := Lib.hid S
  obtain ⟨pa0, A0, S⟩ := S
  obtain ⟨a, ha, h64, hrange, hat⟩ := S.ok.range hx
  have c0 := S.c0
  have hr1 := hat.r1
  have hc1 := hat.c1
  have HX := Lib.hid hx
  have HA := Lib.hid ha
  have HB0 := Lib.hid B
  obtain ⟨sa, scap, hv, hcap, hf8, hcells⟩ := B
  subst hv
  have HO := Lib.hid ho
  have HF8 := Lib.hid hf8
  have hpl := S.blk.lt
  have hr4 : (x.raw : Int) ≤ 4000 := by omega
  have hr0 : (0 : Int) ≤ (x.raw : Int) := by omega
  have HC1 := Lib.hid hc1
  have HR1 := Lib.hid hr1
  clear S hx ha h64 hrange hat ho hf8 hcells hc1 hr1
  go_enter Try.func59, Try.ntmps59
  go_wp2_with fail
  go_at_call 30
  refine (HHd.out _ (by repeat (first | exact Fr.refl HO.out | refine Fr.drew ?_ | refine Fr.alloc ?_ _))).mono ?_
  rintro e w1 ⟨col, z, rfl, F1⟩
  have hsz1 := F1.size
  have HF1 := Lib.hid F1
  clear F1
  go_wp2_with fail
  obtain ⟨w2, hw2⟩ : ∃ w2, w2 = w1.alloc (hdX x.kind x.cells x.raw x.cnt col z) := ⟨_, rfl⟩
  have HF2 := Lib.hid (show Fr 0 0 o o w w2 by rw [hw2]; exact HF1.out.alloc _)
  have HX2 := Lib.hid (show w2.heap[w1.heap.size]? = some (hdX x.kind x.cells x.raw x.cnt col z) by rw [hw2]; exact heap_alloc_new w1 _)
  unfold hdX at hw2
  rw [← hw2]
  clear hw2
  go_loopw [39] (fun iv wr => ∃ i : Nat, i ≤ x.raw ∧ iv = .int .i64 i ∧ ∃ oi, Fr r (r + 16) o oi w2 wr ∧ SpaceRep oi wr r p L (updI ob h (some (withBytes x f i)))) (fun iv _ => x.raw - (intOf iv).toNat)
  case atStart =>
    refine ⟨0, by omega, rfl, o, Fr.refl HF2.out.fresh, ?_⟩
    rw [withBytes_zero, updI_same _ _ _ HX.out]
    exact HS0.out.keep HF2.out (.inr (Nat.zero_le _))
  case round =>
    obtain ⟨i, hi, rfl, oi, F3, hS3⟩ := hrel
    by_cases hix : i < x.raw
    · have hix' : (i : Int) < (x.raw : Int) := by omega
      obtain ⟨pa, A, S⟩ := hS3
      obtain ⟨a', ha', h64, hrange, hat⟩ := S.ok.range (show updI ob h (some (withBytes x f i)) h = some (withBytes x f i) from if_pos rfl)
      have haa : a' = a := by have := HA.out; omega
      subst haa
      have hrange : a' + wordsN x.cells x.raw ≤ A.n * 64 := hrange
      have hw : wordsN x.cells x.raw = 1 + 2 * x.cells + (x.raw + 7) / 8 := rfl
      obtain ⟨g, q, l, b, v, ff, AR⟩ := S.ar
      have hn4 := AR.n1
      have hml := AR.mlt
      have hobx : o w1.heap.size = 0 := HO.out _ hsz1
      have X3 := (F3.block _ (lt_of_block HX2.out) (.inl (by rw [hobx]; omega))).trans HX2.out
      unfold hdX at X3
      have x0 : wr.cell? ⟨w1.heap.size, 0, none⟩ = some (.int .i64 (x.kind : Nat)) := by simp [World.cell?, X3]
      have x1 : wr.cell? ⟨w1.heap.size, 1, none⟩ = some (.int .i64 (x.cells : Nat)) := by simp [World.cell?, X3]
      have x2 : wr.cell? ⟨w1.heap.size, 2, none⟩ = some (.int .i64 (x.raw : Nat)) := by simp [World.cell?, X3]
      have x3 : wr.cell? ⟨w1.heap.size, 3, none⟩ = some (.int .i64 (x.cnt : Nat)) := by simp [World.cell?, X3]
      have x4 : wr.cell? ⟨w1.heap.size, 4, none⟩ = some (.int .i64 (col : Nat)) := by simp [World.cell?, X3]
      have x5 : wr.cell? ⟨w1.heap.size, 5, none⟩ = some (.bool z) := by simp [World.cell?, X3]
      have x6 : wr.cell? ⟨w1.heap.size, 6, none⟩ = some (.bool false) := by simp [World.cell?, X3]
      obtain ⟨sa', scap', hv', hcap', hf8', hcells⟩ := (HB0.out.keep HF2.out (.inr rfl)).keep F3 (.inl (by omega))
      have e1 : sa' = sa ∧ scap' = scap := by cases hv'; exact ⟨rfl, rfl⟩
      obtain ⟨rfl, rfl⟩ := e1
      rcases hcells with hcells | ⟨sg, soff, rfl, sg1, sg2, sg3⟩
      · omega
      have cb := sg3 i hix
      have hfi := HF8.out i hix
      have HRd := Lib.hid (fun (w4 : World) (F : Fr 0 0 oi oi wr w4) => show Calls Try.prog 29 #[.pointer (some ⟨pa, 0, none⟩), .int .i64 (a' + 1 + 2 * x.cells + i / 8 : Nat)] w4 fun e w' => e = .returned (.tuple #[.int .u64 (A.m (a' + 1 + 2 * x.cells + i / 8) : Nat), .int .i64 0]) ∧ w4 = w' from
        aread_any _ (a' + 1 + 2 * x.cells + i / 8) w4 (S.ar.keep F (.inr (Nat.zero_le _))) rfl (by omega))
      have HRaw := Lib.hid (fun (w4 : World) (j : Int) (hj : j = (i : Nat)) => raw_any h j x.kind x.cells x.raw x.cnt col a' i z false w4 HA.out hj HC1.out (by omega) (by omega))
      have HPut := Lib.hid (fun (w4 : World) (j vv : Int) (hj : j = (i % 8 * 8 : Nat)) (hvv : vv = (f i : Nat)) => show Calls Try.prog 53 #[.int .u64 (A.m (a' + 1 + 2 * x.cells + i / 8) : Nat), .int .i64 j, .int .i64 8, .int .u64 vv] w4 fun e w' => e = .returned (.int .u64 (putv (A.m (a' + 1 + 2 * x.cells + i / 8)) (i % 8 * 8) 8 (f i) : Nat)) ∧ w4 = w' from by
        subst hj hvv
        exact put_nat (A.m (a' + 1 + 2 * x.cells + i / 8)) (i % 8 * 8) 8 (f i) (hml _) (by omega) (by omega) (by omega) w4)
      have HWr := Lib.hid (fun (w4 : World) (j : Int) (hj : j = (a' + 1 + 2 * x.cells + i / 8 : Nat)) (F : Fr 0 0 oi oi wr w4) => show Calls Try.prog 25 #[.pointer (some ⟨pa, 0, none⟩), .int .i64 j, .int .u64 (putv (A.m (a' + 1 + 2 * x.cells + i / 8)) (i % 8 * 8) 8 (f i) : Nat)] w4 fun e w' => e = .returned (.int .i64 0) ∧ ∃ o', Fr r (r + 16) o o' w2 w' ∧ SpaceRep o' w' r p L (updI ob h (some (withBytes x f (i + 1)))) from
        (awrite_any j (a' + 1 + 2 * x.cells + i / 8) _ w4 F.fresh (S.ar.keep F (.inr (Nat.zero_le _))) hj (by omega) (putv_lt (hml _) (by omega) (by omega))).mono fun e w' hh => by
          obtain ⟨h1, o', F5, A5⟩ := hh
          have T := S.turn (x := withBytes x f i) (y := setByte (withBytes x f i) i (f i)) (m := byteM A.m a' (withBytes x f i) i (f i)) (if_pos rfl) HA.out rfl rfl (fun k hk => by
            unfold byteM updN
            rw [if_neg]
            intro e
            have hb : byteAt a' (withBytes x f i) i = a' + 1 + 2 * x.cells + i / 8 := rfl
            have hwx : wordsN (withBytes x f i).cells (withBytes x f i).raw = wordsN x.cells x.raw := rfl
            omega) (hat.setByte i (f i) hix hfi) ((S.blk.keep F (.inr (Nat.zero_le _))).keep F5 (by omega)) A5
          rw [updI_twice, withBytes_succ] at T
          exact ⟨h1, o', (F3.trans (F.none r (r + 16))).trans (F5.mono (by omega) (by omega)), pa, _, T⟩)
      have c3 := S.c0
      have hp3 := S.blk.lt
      have HFR := Lib.hid (Fr.refl (lo := 0) (hi := 0) F3.fresh)
      have hi0 : (0 : Int) ≤ (i : Int) := by omega
      have hatn : ((a' + 1 + 2 * x.cells + i / 8 : Nat) : Int) ≤ 262144 := by omega
      generalize A.m (a' + 1 + 2 * x.cells + i / 8) = wd at HRd HPut HWr
      generalize putv wd (i % 8 * 8) 8 (f i) = wd2 at HPut HWr
      clear S AR hat h64 ha' hrange hw hn4 hml X3 sg3 F3
      go_wp2_with fail
      go_at_call 31
      refine (HRaw.out _ _ rfl).mono ?_
      rintro e w4 ⟨rfl, hb4⟩
      have F4 := HFR.out.below hb4
      have c4 := F4.cell0 c3
      have hp4 : p < w4.heap.size := Nat.lt_of_lt_of_le hp3 F4.size
      have HF4 := Lib.hid F4
      clear hb4 F4
      go_wp2_with fail
      go_at_call 29
      refine (HRd.out _ HF4.out).mono ?_
      rintro e w5 ⟨rfl, rfl⟩
      go_wp2_with fail
      go_region_with (first
        | (go_at_call 53; refine (HPut.out _ _ _ (by omega) (by rw [IntKind.wrap_u64]; omega)).mono ?_; rintro e w6 ⟨rfl, rfl⟩)
        | (go_at_call 25; refine (HWr.out _ _ (by omega) (by repeat (first | exact HF4.out | refine Fr.drew ?_))).mono ?_; rintro e w7 ⟨rfl, o7, F7, S7⟩; have HF7 := Lib.hid F7; clear F7; have HS7 := Lib.hid S7; clear S7))
      all_goals
        go_wp2_with fail
        exact ⟨⟨i + 1, by omega, by go_num, o7, HF7.out, HS7.out⟩, by simp [intOf]; omega⟩
    · have hix' : ¬ (i : Int) < (x.raw : Int) := by omega
      obtain rfl : i = x.raw := by omega
      go_wp2_with fail
      go_ret
      exact ⟨rfl, oi, (HF2.out.none r (r + 16)).trans F3, hS3⟩
end Go.Proofs.Ytlpklloagaccoaa
