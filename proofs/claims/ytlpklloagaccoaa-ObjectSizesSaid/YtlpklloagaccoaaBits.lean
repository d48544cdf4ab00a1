/- Sets of small numbers (bitset): New, Has, Add, Drop, Run. Conditions: numbers below the set's length, that at most 4096. -/
import Derived.Test.YtlpklloagaccoaaSizes
import Derived.Test.YtlpklloagaccoaaField
namespace Go.Proofs.Ytlpklloagaccoaa
open Go.RowKit
set_option linter.unusedVariables false

structure Bset (o : Own) (w : World) (r p n : Nat) (S : Nat → Bool) (g : Nat) (m : Nat → Nat) : Prop where
  blk : Blk o w r p (.cells #[.int .i64 (n : Nat), .slice (some ⟨g, 0, none⟩) ((n + 63) / 64) ((n + 63) / 64)] 136 (0, 0))
  own : o g = r + 1
  ws : WordsB w g ((n + 63) / 64) m
  lt : ∀ i, m i < 2 ^ 64
  is : ∀ i, i < n → (m (i / 64)).testBit (i % 64) = S i
  le : n ≤ 4096
def BsetRep (o : Own) (w : World) (r p n : Nat) (S : Nat → Bool) : Prop := ∃ g m, Bset o w r p n S g m
theorem Bset.keep {lo hi : Nat} {o o' : Own} {w w' : World} {r p n : Nat} {S : Nat → Bool} {g : Nat} {m : Nat → Nat} (h : Bset o w r p n S g m) (k : Fr lo hi o o' w w') (hr : r + 2 ≤ lo ∨ hi ≤ r) : Bset o' w' r p n S g m :=
  ⟨h.blk.keep k (by omega), (k.own g h.ws.lt).trans h.own, h.ws.of_eq (k.block g h.ws.lt (by rw [h.own]; omega)), h.lt, h.is, h.le⟩
theorem BsetRep.keep {lo hi : Nat} {o o' : Own} {w w' : World} {r p n : Nat} {S : Nat → Bool} (h : BsetRep o w r p n S) (k : Fr lo hi o o' w w') (hr : r + 2 ≤ lo ∨ hi ≤ r) : BsetRep o' w' r p n S :=
  let ⟨g, m, s⟩ := h; ⟨g, m, s.keep k hr⟩
theorem may_any {o : Own} {r p n : Nat} {S : Nat → Bool} (i : Nat) (w : World) (B : BsetRep o w r p n S) (hi : i < n) :
    Calls Try.prog 81 #[.pointer (some ⟨p, 0, none⟩), .int .i64 (i : Nat)] w fun e w' => e = .returned (.bool true) ∧ w = w' := by
  obtain ⟨g, m, B⟩ := B
  have c0 := B.blk.cell 0
  simp only [List.getElem?_toArray, List.getElem?_cons_zero] at c0
  have h0 : (0 : Int) ≤ (i : Int) := by omega
  have h1 : (i : Int) < (n : Int) := by omega
  go_enter Try.func81, Try.ntmps81
  go_wp2
  go_ret
  exact ⟨rfl, rfl⟩
theorem shr_one (x k : Nat) (hx : x < 2 ^ 64) : (bits .and .u64 ((x : Int) / 2 ^ k) 1 == 1) = x.testBit k := by
  have hd : x / 2 ^ k < 2 ^ 64 := Nat.lt_of_le_of_lt (Nat.div_le_self _ _) hx
  have e1 : ((x : Int) / 2 ^ k) = ((x / 2 ^ k : Nat) : Int) := by simp
  have e2 : (1 : Int) = ((1 : Nat) : Int) := rfl
  rw [e1, e2, (bits_u64 _ 1 hd (by decide)).1, Nat.testBit_eq_decide_div_mod_eq, Nat.and_one_is_mod]
  generalize x / 2 ^ k % 2 = z
  by_cases hz : z = 1 <;> simp [hz]
  omega
theorem bhas_any {o : Own} {r p n : Nat} {S : Nat → Bool} (i : Nat) (w : World) (B : BsetRep o w r p n S) (hi : i < n) :
    Calls Try.prog 82 #[.pointer (some ⟨p, 0, none⟩), .int .i64 (i : Nat)] w fun e w' => e = .returned (.bool (S i)) ∧ w = w' := by
  have B0 := Lib.hid B
  obtain ⟨g, m, B⟩ := B
  have c1 := B.blk.cell 1
  simp only [List.getElem?_toArray, List.getElem?_cons_zero, List.getElem?_cons_succ] at c1
  have hle := B.le
  have hlt := Lib.hid (B.lt (i / 64))
  have hs := Lib.hid (B.is i hi)
  have cw := B.ws.cell (i := i / 64) (by omega)
  have e1 : ((i : Nat) : Int).tdiv 64 = (i / 64 : Nat) := by rw [Int.tdiv_eq_ediv_of_nonneg (by omega)]; omega
  have e2 : ((i : Nat) : Int).tmod 64 = (i % 64 : Nat) := by rw [Int.tmod_eq_emod_of_nonneg (by omega)]; omega
  have h2 : (((i / 64 : Nat) : Int)) < (((n + 63) / 64 : Nat) : Int) := by omega
  have h3 : ¬ (((i % 64 : Nat) : Int)) < 0 := by omega
  have h4 : (((i % 64 : Nat) : Int)) < 64 := by omega
  clear B
  generalize m (i / 64) = x at *
  go_enter Try.func82, Try.ntmps82
  go_wp2_with (go_at_call 81; refine (may_any i _ B0.out hi).mono ?_; rintro e w1 ⟨rfl, rfl⟩)
  go_ret
  exact ⟨ret_bool (by rw [← hs.out]; exact shr_one x (i % 64) hlt.out), rfl⟩
theorem xor_u64 (a b : Nat) (ha : a < 2 ^ 64) (hb : b < 2 ^ 64) : bits .xor .u64 (a : Int) (b : Int) = ((a ^^^ b : Nat) : Int) := by
  have h1 : (BitVec.ofInt 64 (a : Int)).toNat = a := by
    rw [BitVec.ofInt_natCast, BitVec.toNat_ofNat]; exact Nat.mod_eq_of_lt ha
  have h2 : (BitVec.ofInt 64 (b : Int)).toNat = b := by
    rw [BitVec.ofInt_natCast, BitVec.toNat_ofNat]; exact Nat.mod_eq_of_lt hb
  have hlt : a ^^^ b < 2 ^ 64 := Nat.xor_lt_two_pow ha hb
  show IntKind.u64.wrap ((BitVec.ofInt 64 (a : Int) ^^^ BitVec.ofInt 64 (b : Int)).toNat : Int) = _
  rw [BitVec.toNat_xor, h1, h2, IntKind.wrap_u64]
  omega
theorem xor_pow (x k : Nat) (hx : x < 2 ^ 64) (hk : k < 64) : bits .xor .u64 (x : Int) (IntKind.u64.wrap (2 ^ k)) = ((x ^^^ 2 ^ k : Nat) : Int) := by
  have hp : 2 ^ k < 2 ^ 64 := Nat.pow_lt_pow_right (by decide) hk
  have e1 : ((2 : Int) ^ k) = ((2 ^ k : Nat) : Int) := by simp
  have e2 : IntKind.u64.wrap ((2 : Int) ^ k) = ((2 ^ k : Nat) : Int) := by
    rw [e1, IntKind.wrap_u64]
    generalize 2 ^ k = q at *
    omega
  rw [e2, xor_u64 _ _ hx hp]
theorem BsetRep.drew {o : Own} {w : World} {r p n : Nat} {S : Nat → Bool} (h : BsetRep o w r p n S) : BsetRep o w.drew r p n S :=
  let ⟨g, m, s⟩ := h; ⟨g, m, ⟨s.blk, s.own, s.ws, s.lt, s.is, s.le⟩⟩
def setS (S : Nat → Bool) (i : Nat) (b : Bool) : Nat → Bool := fun j => if j = i then b else S j
/-- Behind Add and Drop. -/
def FlipPost (o : Own) (w : World) (r p n : Nat) (S : Nat → Bool) (v : Bool) (e : Ending) (w' : World) : Prop :=
  e = .returned (.bool v) ∧ Fr r (r + 2) o o w w' ∧ BsetRep o w' r p n S
theorem Bset.flip {o : Own} {w : World} {r p n : Nat} {S : Nat → Bool} {g : Nat} {m : Nat → Nat} (B : Bset o w r p n S g m) (i : Nat) (hi : i < n) (v : Bool) (hv : S i = !v) :
    BsetRep o (w.setCell ⟨g, i / 64, none⟩ (.int .u64 ((m (i / 64) ^^^ 2 ^ (i % 64) : Nat)))) r p n (setS S i v) := by
  have hpg : p ≠ g := fun e => by have h1 := B.blk.1; have h2 := B.own; rw [e] at h1; omega
  refine ⟨g, updN m (i / 64) (m (i / 64) ^^^ 2 ^ (i % 64)), B.blk.of_eq (Below.heap_setCell _ _ _ _ hpg), B.own, B.ws.set _ _, fun j => ?_, fun j hj => ?_, B.le⟩
  · unfold updN
    split
    · exact Nat.xor_lt_two_pow (B.lt _) (Nat.pow_lt_pow_right (by decide) (by omega))
    · exact B.lt j
  · unfold updN setS
    have hs := B.is j hj
    by_cases hq : j / 64 = i / 64
    · rw [if_pos hq, Nat.testBit_xor, Nat.testBit_two_pow]
      by_cases hji : j = i
      · subst hji
        rw [if_pos rfl, hs, hv]; simp
      · have : ¬ i % 64 = j % 64 := by omega
        rw [if_neg hji, ← hs, hq]; simp [this]
    · have hji : ¬ j = i := fun e => hq (by rw [e])
      rw [if_neg hq, if_neg hji, hs]
theorem setS_same (S : Nat → Bool) (i : Nat) (b : Bool) (h : S i = b) : setS S i b = S := by
  funext j; unfold setS; split
  · rename_i e; rw [e, h]
  · rfl
set_option maxHeartbeats 400000 in
theorem flip_any {o : Own} {r p n : Nat} {S : Nat → Bool} (i : Nat) (was : Bool) (w : World) (ho : Owned o w) (B : BsetRep o w r p n S) (hi : i < n) :
    Calls Try.prog 73 #[.pointer (some ⟨p, 0, none⟩), .int .i64 (i : Nat), .bool was] w (FlipPost o w r p n (setS S i (!was)) (S i == was)) := by
  have B0 := Lib.hid B
  have hnot : ∀ (x : Bool) (w : World), (Op.unary .not (.bool x)).run Try.prog w = .ok (.bool (!x)) w := fun _ _ => rfl
  obtain ⟨s, hs⟩ : ∃ s, s = S i := ⟨_, rfl⟩
  by_cases hw : s = was
  · subst hw
    obtain ⟨g, m, B⟩ := B
    have hres := Lib.hid (show (S i == S i) = true by simp)
    have HB := Lib.hid (B.flip i hi (!s) (by rw [hs]; simp))
    have c1 := B.blk.cell 1
    simp only [List.getElem?_toArray, List.getElem?_cons_zero, List.getElem?_cons_succ] at c1
    have hle := B.le
    have HS := Lib.hid hs
    have hlt := Lib.hid (B.lt (i / 64))
    have cw := B.ws.cell (i := i / 64) (by omega)
    have fw := B.ws.free (i / 64)
    have HO := Lib.hid B.own
    have e1 : ((i : Nat) : Int).tdiv 64 = (i / 64 : Nat) := by rw [Int.tdiv_eq_ediv_of_nonneg (by omega)]; omega
    have e2 : ((i : Nat) : Int).tmod 64 = (i % 64 : Nat) := by rw [Int.tmod_eq_emod_of_nonneg (by omega)]; omega
    have h2 : (((i / 64 : Nat) : Int)) < (((n + 63) / 64 : Nat) : Int) := by omega
    have h3 : ¬ (((i % 64 : Nat) : Int)) < 0 := by omega
    have h4 : (((i % 64 : Nat) : Int)) < 64 := by omega
    clear B
    clear hs
    generalize m (i / 64) = x at *
    go_enter Try.func73, Try.ntmps73
    go_wp2_with (first
      | (go_at_call 81; refine (may_any i _ B0.out hi).mono ?_; rintro e w1 ⟨rfl, rfl⟩)
      | (go_at_call 82; refine (bhas_any i _ B0.out hi).mono ?_; rintro e w1 ⟨rfl, rfl⟩; rw [← HS.out]))
    go_region
    all_goals
      go_wp2
      go_ret
      rw [xor_pow x (i % 64) hlt.out (by omega)]
      refine ⟨ret_bool (by rw [← HS.out]; simp), ((Fr.refl ho).setCell _ _ (.inl ⟨by simp only [HO.out]; omega, by simp only [HO.out]; omega⟩)).drew, HB.out.drew⟩
  · have hsw : (s == was) = false := by simp [hw]
    have hres := Lib.hid (show (S i == was) = false by rw [← hs]; exact hsw)
    have hsame := Lib.hid (setS_same S i (!was) (by rw [← hs]; cases s <;> cases was <;> simp_all))
    have hne : (s != was) = true := by simp [hw]
    have HS := Lib.hid hs
    clear hs
    go_enter Try.func73, Try.ntmps73
    go_wp2_with (first
      | (go_at_call 81; refine (may_any i _ B0.out hi).mono ?_; rintro e w1 ⟨rfl, rfl⟩)
      | (go_at_call 82; refine (bhas_any i _ B0.out hi).mono ?_; rintro e w1 ⟨rfl, rfl⟩; rw [← HS.out]))
    go_ret
    refine ⟨ret_bool hres.out.symm, Fr.refl ho, ?_⟩
    rw [hsame.out]; exact B0.out
theorem badd_any {o : Own} {r p n : Nat} {S : Nat → Bool} (i : Nat) (w : World) (ho : Owned o w) (B : BsetRep o w r p n S) (hi : i < n) :
    Calls Try.prog 62 #[.pointer (some ⟨p, 0, none⟩), .int .i64 (i : Nat)] w (FlipPost o w r p n (setS S i true) (S i == false)) := by
  have H := Lib.hid (flip_any i false w ho B hi)
  go_enter Try.func62, Try.ntmps62
  go_wp2_with (go_at_call 73; refine H.out.mono ?_; rintro e w1 ⟨rfl, hf, hb⟩)
  go_ret
  exact ⟨ret_bool (by cases S i <;> rfl), hf, hb⟩
theorem bdrop_any {o : Own} {r p n : Nat} {S : Nat → Bool} (i : Nat) (w : World) (ho : Owned o w) (B : BsetRep o w r p n S) (hi : i < n) :
    Calls Try.prog 87 #[.pointer (some ⟨p, 0, none⟩), .int .i64 (i : Nat)] w (FlipPost o w r p n (setS S i false) (S i == true)) := by
  have H := Lib.hid (flip_any i true w ho B hi)
  go_enter Try.func87, Try.ntmps87
  go_wp2_with (go_at_call 73; refine H.out.mono ?_; rintro e w1 ⟨rfl, hf, hb⟩)
  go_ret
  exact ⟨ret_bool (by cases S i <;> rfl), hf, hb⟩
/-- A new set. -/
def BsetNew (o : Own) (w : World) (r n : Nat) (e : Ending) (w' : World) : Prop :=
  ∃ p o', e = .returned (.pointer (some ⟨p, 0, none⟩)) ∧ Fr r (r + 2) o o' w w' ∧ BsetRep o' w' r p n (fun _ => false)
theorem bset_made {o : Own} {w : World} (ho : Owned o w) (r n : Nat) (hn : n ≤ 4096) :
    BsetNew o w r n (.returned (.pointer (some ⟨w.heap.size + 1, 0, none⟩))) ((w.alloc (.cells (madeCells (Value.int .u64 0).cells ((n + 63) / 64 * 1)) 57)).alloc (.cells #[.int .i64 (n : Nat), .slice (some ⟨w.heap.size, 0, none⟩) ((n + 63) / 64) ((n + 63) / 64)] 136)) := by
  have f1 := (Fr.refl (lo := r) (hi := r + 2) ho).give (.cells (madeCells (Value.int .u64 0).cells ((n + 63) / 64 * 1)) 57) (r + 1)
  have f2 := f1.give (.cells #[.int .i64 (n : Nat), .slice (some ⟨w.heap.size, 0, none⟩) ((n + 63) / 64) ((n + 63) / 64)] 136) r
  simp only [World.size_alloc] at f2
  refine ⟨_, _, rfl, f2, w.heap.size, fun _ => 0, ⟨by simp [Own.give], ?_⟩, ?_, ?_, fun _ => by decide, fun _ _ => by simp, hn⟩
  · have := heap_alloc_new (w.alloc (.cells (madeCells (Value.int .u64 0).cells ((n + 63) / 64 * 1)) 57)) (.cells #[.int .i64 (n : Nat), .slice (some ⟨w.heap.size, 0, none⟩) ((n + 63) / 64) ((n + 63) / 64)] 136)
    simp only [World.size_alloc] at this
    exact this
  · simp [Own.give]
  · exact (WordsB.made w ((n + 63) / 64)).of_eq (Below.heap_alloc _ _ _ (by simp))
set_option maxRecDepth 100000 in
theorem bset_new {o : Own} (r n : Nat) (w : World) (ho : Owned o w) (h1 : 1 ≤ n) (hn : n ≤ 4096) :
    Calls Try.prog 61 #[.int .i64 (n : Nat)] w (BsetNew o w r n) := by
  have H := Lib.hid (bset_made ho r n hn)
  obtain ⟨i, hi, hz, hsz, hby⟩ : ∃ i, Try.prog.info? 57 = some i ∧ i.zero = some (.int .u64 0) ∧ i.size = 1 ∧ i.bytes = 8 := by
    have h := infoU64
    cases hp : Try.prog.info? 57 with
    | none => rw [hp] at h; cases h
    | some i => rw [hp] at h; simp only [Option.map_some, Option.some.injEq, Prod.mk.injEq] at h; exact ⟨i, rfl, h.1, h.2.1, h.2.2⟩
  have e0 : ((n : Int) + 64 - 1).tdiv 64 = ((n + 63) / 64 : Nat) := by rw [Int.tdiv_eq_ediv_of_nonneg (by omega)]; omega
  have hmk := run_make (P := Try.prog) w 87 57 i (.int .u64 0) Try.underlying87 hi hz .i64 .i64 ((n + 63) / 64 : Nat) ((n + 63) / 64 : Nat) (by omega) (Int.le_refl _) (by rw [hby]; omega) (by omega)
  rw [Int.toNat_natCast, hsz] at hmk
  clear hi hz hsz hby
  generalize madeCells (Value.int .u64 0).cells ((n + 63) / 64 * 1) = row at *
  rw [show (((n + 63) / 64 : Nat) : Int) = ((n : Int) + 63) / 64 by omega] at hmk
  have n1 : (n : Int) ≤ 1000000 := by omega
  have n2 : (0 : Int) ≤ (n : Int) := by omega
  go_enter Try.func61, Try.ntmps61
  go_wp2
  all_goals
    go_ret
    exact H.out
end Go.Proofs.Ytlpklloagaccoaa
