/- Rows of words of 64 bits, as functions; the words that nobody writes (guard). Conditions: places in range. Sizes of blocks. Conditions: numbers in range. Sets of small numbers (bitset): New, Has, Add, Drop, Run. Conditions: numbers below the set's length, that at most 4096. The first run of free numbers behind a prefix (bitset.Run). Conditions: what is taken is a prefix. -/
import Derived.Test.YtlpklloagaccoaaGreatMaps
import Derived.Lib.SliceRun
import Derived.Test.YtlpklloagaccoaaGreatRead
namespace Go.Proofs.YtlpklloagaccoaaGreat
open Go.RowKit
set_option linter.unusedVariables false

theorem infoU64 : (Tryz.prog.info? 55).map (fun i => (i.zero, i.size, i.bytes)) = some (some (.int .u64 0), 1, 8) := by kernel_rfl
theorem zero_u64 (w : World) : (zeroValue 55).run Tryz.prog w = .ok (.int .u64 0) w := by kernel_rfl

/-- Block g is n words: m. -/
def WordsB (w : World) (g n : Nat) (m : Nat → Nat) : Prop :=
  ∃ cs : Array Value, w.heap[g]? = some (.cells cs 55 (0, 0)) ∧ cs.size = n ∧ ∀ i, i < n → cs[i]? = some (.int .u64 (m i : Nat))
theorem WordsB.cell {w : World} {g n : Nat} {m : Nat → Nat} (h : WordsB w g n m) {i : Nat} (hi : i < n) : w.cell? ⟨g, i, none⟩ = some (.int .u64 (m i : Nat)) := by
  obtain ⟨cs, h1, h2, h3⟩ := h
  simp [World.cell?, h1, h3 i hi]
theorem WordsB.free {w : World} {g n : Nat} {m : Nat → Nat} (h : WordsB w g n m) (i : Nat) : w.frozen? ⟨g, i, none⟩ = false := by
  obtain ⟨cs, h1, h2, h3⟩ := h
  simp [World.frozen?, h1]
theorem WordsB.of_eq {w w' : World} {g n : Nat} {m : Nat → Nat} (h : WordsB w g n m) (e : w'.heap[g]? = w.heap[g]?) : WordsB w' g n m :=
  let ⟨cs, h1, h2, h3⟩ := h; ⟨cs, e.trans h1, h2, h3⟩
theorem WordsB.lt {w : World} {g n : Nat} {m : Nat → Nat} (h : WordsB w g n m) : g < w.heap.size := let ⟨_, h1, _⟩ := h; lt_of_block h1
theorem WordsB.congr {w : World} {g n : Nat} {m m' : Nat → Nat} (h : WordsB w g n m) (e : ∀ i, i < n → m' i = m i) : WordsB w g n m' :=
  let ⟨cs, h1, h2, h3⟩ := h; ⟨cs, h1, h2, fun i hi => by rw [e i hi]; exact h3 i hi⟩
def updN (m : Nat → Nat) (k v : Nat) : Nat → Nat := fun i => if i = k then v else m i
theorem WordsB.set {w : World} {g n : Nat} {m : Nat → Nat} (h : WordsB w g n m) (k v : Nat) : WordsB (w.setCell ⟨g, k, none⟩ (.int .u64 (v : Nat))) g n (updN m k v) := by
  obtain ⟨cs, h1, h2, h3⟩ := h
  refine ⟨_, heap_set h1 k _, by simpa using h2, fun i hi => ?_⟩
  unfold updN
  by_cases hk : i = k
  · subst hk; simp [h2, hi]
  · have hk' : ¬ k = i := fun e => hk e.symm
    rw [Array.getElem?_setIfInBounds]
    simp [hk', hk, h3 i hi]
theorem WordsB.setCells {w : World} {g n : Nat} {m : Nat → Nat} (h : WordsB w g n m) : ∀ (c a : Nat), WordsB (w.setCells g a (List.replicate c (.int .u64 0))) g n (fun i => if a ≤ i ∧ i < a + c then 0 else m i)
  | 0, a => h.congr fun i _ => if_neg (by omega)
  | c + 1, a => by
    rw [List.replicate_succ]
    have h1 := h.set a 0
    have h2 := WordsB.setCells h1 c (a + 1)
    refine WordsB.congr h2 fun i _ => ?_
    unfold updN
    split <;> split <;> (try split) <;> (try rfl) <;> (exfalso; omega)
theorem setCells_block (g : Nat) : ∀ (vs : List Value) (a : Nat) (w : World), (∀ b, b ≠ g → (w.setCells g a vs).heap[b]? = w.heap[b]?) ∧ (w.setCells g a vs).heap.size = w.heap.size ∧ (w.setCells g a vs).os = w.os ∧ (w.setCells g a vs).tape = w.tape ∧ (w.setCells g a vs).output = w.output
  | [], a, w => ⟨fun _ _ => rfl, rfl, rfl, rfl, rfl⟩
  | v :: vs, a, w => by
    obtain ⟨h1, h2, h3, h4, h5⟩ := setCells_block g vs (a + 1) (w.setCell ⟨g, a, none⟩ v)
    exact ⟨fun b hb => (h1 b hb).trans (Below.heap_setCell _ _ _ _ hb), h2.trans (by simp), h3, h4, h5⟩
theorem WordsB.made (w : World) (n : Nat) : WordsB (w.alloc (.cells (madeCells (Value.int .u64 0).cells (n * 1)) 55)) w.heap.size n (fun _ => 0) := by
  refine ⟨_, heap_alloc_new w _, by rw [size_madeCells]; omega, fun i hi => ?_⟩
  have h := toList_madeCells_one (.int .u64 0) (n * 1)
  have e : (Value.int .u64 0).cells = #[.int .u64 0] := rfl
  rw [e, ← Array.getElem?_toList, h, List.getElem?_replicate]
  simp [hi]

/-! ### guard -/
/-- The word behind what was asked for; the word in what was freed. -/
def canW (a : Int) : Nat := (bits .xor .u64 (IntKind.u64.wrap a) 54324593428463829).toNat
def poiW (a : Int) : Nat := (bits .xor .u64 (IntKind.u64.wrap a) 16045690675887209166).toNat
theorem xor_range (a b : Int) : 0 ≤ bits .xor .u64 a b ∧ bits .xor .u64 a b < 18446744073709551616 := by
  show 0 ≤ IntKind.u64.wrap _ ∧ IntKind.u64.wrap _ < _
  simp only [IntKind.wrap_u64]
  omega
theorem canary_any (a : Int) (w : World) : Calls Tryz.prog 162 #[.int .i64 a] w fun e w' => e = .returned (.int .u64 (canW a : Nat)) ∧ w = w' := by
  go_enter Tryz.func162, Tryz.ntmps162
  go_wp2
  go_ret
  exact ⟨ret_int (by unfold canW; rw [Int.toNat_of_nonneg (xor_range _ _).1]), rfl⟩
theorem poison_any (a : Int) (w : World) : Calls Tryz.prog 171 #[.int .i64 a] w fun e w' => e = .returned (.int .u64 (poiW a : Nat)) ∧ w = w' := by
  go_enter Tryz.func171, Tryz.ntmps171
  go_wp2
  go_ret
  exact ⟨ret_int (by unfold poiW; rw [Int.toNat_of_nonneg (xor_range _ _).1]), rfl⟩
/-- The words from a on, n of them, are as nobody wrote them. -/
def wholeB (m : Nat → Nat) (a n : Nat) (f : Int) (fr : Bool) : Bool := decide (∀ i, i < n → m (a + i) = if fr then poiW (f + i) else canW (f + i))
theorem whole_any (g N a n cap : Nat) (m : Nat → Nat) (f : Int) (fr : Bool) (w : World) (W : WordsB w g N m) (h1 : a + n ≤ N) (h2 : N < 1099511627776) (f0 : 0 ≤ f) (f1 : f < 1099511627776) :
    Calls Tryz.prog 199 #[.slice (some ⟨g, a, none⟩) n cap, .int .i64 f, .bool fr] w fun e w' => e = .returned (.bool (wholeB m a n f fr)) ∧ w = w' := by
  have HN := Lib.hid W
  have HA := Lib.hid h1
  obtain ⟨fr', hfr⟩ : ∃ b, b = fr := ⟨_, rfl⟩
  have HFR := Lib.hid hfr
  clear hfr
  cases fr
  all_goals
    go_enter Tryz.func199, Tryz.ntmps199
    go_wp2
    go_loopw [13] (fun jv wr => ∃ j : Nat, jv = .int .i64 j ∧ j ≤ n ∧ wr = w ∧ ∀ i, i < j → m (a + i) = if fr' then poiW (f + i) else canW (f + i)) (fun jv _ => n - (intOf jv).toNat)
    case atStart => exact ⟨0, rfl, by omega, rfl, fun i hi => absurd hi (by omega)⟩
    case round =>
      obtain ⟨j, rfl, hj, rfl, hall⟩ := hrel
      have HALL := Lib.hid hall
      clear hall
      by_cases hjn : j < n
      · have hjn' : (j : Int) < (n : Int) := by omega
        have hcl := HN.out.cell (i := a + j) (by omega)
        obtain ⟨want, hw⟩ : ∃ x, x = if fr' then poiW (f + j) else canW (f + j) := ⟨_, rfl⟩
        have HW := Lib.hid hw
        have HWT : Hid (∀ x : Nat, poiW (f + j) = x → fr' = true → want = x) := fun x h h' => by rw [HW.out, h', if_pos rfl, h]
        have HWF : Hid (∀ x : Nat, canW (f + j) = x → fr' = false → want = x) := fun x h h' => by rw [HW.out, h']; simpa using h
        have HWA : Hid (∀ jj : Nat, jj = j → want = if fr' = true then poiW (f + jj) else canW (f + jj)) := fun jj e => by rw [e, HW.out]
        clear hw
        generalize hv : m (a + j) = v at hcl
        have HV := Lib.hid hv
        clear hv
        have HRET : Hid (¬ v = want → wholeB m a n f fr' = false) := fun hne => by
          unfold wholeB
          rw [decide_eq_false_iff_not]
          intro hall
          exact hne (by rw [← HV.out, hall j hjn]; exact (HWA.out j rfl).symm)
        by_cases hx : v = want
        · have hx' : ((v : Int) != (want : Int)) = false := by simp [hx]
          have HX := Lib.hid hx
          clear hx
          go_wp2_with (first
            | (go_at_call 162; refine (canary_any _ _).mono ?_; rintro e w1 ⟨rfl, rfl⟩; generalize hcc : canW (f + j) = c at *; obtain rfl := HWF.out _ rfl HFR.out)
            | (go_at_call 171; refine (poison_any _ _).mono ?_; rintro e w1 ⟨rfl, rfl⟩; generalize hcc : poiW (f + j) = c at *; obtain rfl := HWT.out _ rfl HFR.out))
          exact ⟨⟨j + 1, by go_num, by omega, by first | rfl | trivial, fun i hi => by
            rcases Nat.lt_or_ge i j with h | h
            · exact HALL.out i h
            · obtain rfl : i = j := by omega
              rw [HV.out, HX.out]; exact HWA.out _ rfl⟩, by simp [intOf]; omega⟩
        · have hx' : ((v : Int) != (want : Int)) = true := by simp; omega
          have HX := Lib.hid hx
          clear hx
          go_wp2_with (first
            | (go_at_call 162; refine (canary_any _ _).mono ?_; rintro e w1 ⟨rfl, rfl⟩; generalize hcc : canW (f + j) = c at *; obtain rfl := HWF.out _ rfl HFR.out)
            | (go_at_call 171; refine (poison_any _ _).mono ?_; rintro e w1 ⟨rfl, rfl⟩; generalize hcc : poiW (f + j) = c at *; obtain rfl := HWT.out _ rfl HFR.out))
          go_ret
          refine ⟨ret_bool ?_, rfl⟩
          have := HRET.out HX.out
          rw [HFR.out] at this
          exact this.symm
      · have hjn' : ¬ (j : Int) < (n : Int) := by omega
        go_wp2
        go_ret
        obtain rfl : j = n := by omega
        refine ⟨ret_bool ?_, rfl⟩
        have : wholeB m a j f fr' = true := by unfold wholeB; rw [decide_eq_true_eq]; exact HALL.out
        rw [HFR.out] at this
        exact this.symm
end Go.Proofs.YtlpklloagaccoaaGreat
namespace Go.Proofs.YtlpklloagaccoaaGreat
open Go.RowKit
set_option linter.unusedVariables false

/-- The place of a size, and it. -/
def classN (n : Nat) : Nat := if n < 2 then 0 else if n < 4 then 1 else if n < 8 then 2 else if n < 16 then 3 else if n < 32 then 4 else 5
def sizeN (n : Nat) : Nat := if n < 2 then 2 else if n < 4 then 4 else if n < 8 then 8 else if n < 16 then 16 else if n < 32 then 32 else 64 * (n / 64 + 1)
theorem spages_any (n : Nat) (w : World) (h0 : 1 ≤ n) (h : n < 1099511627776) : Calls Tryz.prog 192 #[.int .i64 (n : Nat)] w fun e w' => e = .returned (.int .i64 (n / 64 + 1 : Nat)) ∧ w = w' := by
  have e1 : ((n : Nat) : Int).tdiv 64 = (n / 64 : Nat) := by rw [Int.tdiv_eq_ediv_of_nonneg (by omega)]; omega
  go_enter Tryz.func192, Tryz.ntmps192
  go_wp2
  all_goals
    go_ret
    refine ⟨ret_int ?_, rfl⟩
    omega
def SizeStep (n k s : Nat) : Prop := (k = 0 ∧ s = 2) ∨ (k = 1 ∧ s = 4 ∧ 2 ≤ n) ∨ (k = 2 ∧ s = 8 ∧ 4 ≤ n) ∨ (k = 3 ∧ s = 16 ∧ 8 ≤ n) ∨ (k = 4 ∧ s = 32 ∧ 16 ≤ n) ∨ (k = 5 ∧ s = 64 ∧ 32 ≤ n)
theorem SizeStep.next {n k s : Nat} (h : SizeStep n k s) (h1 : s ≤ 32) (h2 : s ≤ n) : SizeStep n (k + 1) (s * 2) := by
  unfold SizeStep at *; omega
theorem SizeStep.here {n k s : Nat} (h : SizeStep n k s) (h1 : s ≤ 32) (h2 : n < s) : classN n = k ∧ sizeN n = s := by
  unfold SizeStep at h; unfold classN sizeN
  rcases h with ⟨rfl, rfl⟩ | ⟨rfl, rfl, h⟩ | ⟨rfl, rfl, h⟩ | ⟨rfl, rfl, h⟩ | ⟨rfl, rfl, h⟩ | ⟨rfl, rfl, h⟩
  · simp [h2]
  · rw [if_neg (by omega), if_pos (by omega), if_neg (by omega), if_pos (by omega)]; exact ⟨rfl, rfl⟩
  · rw [if_neg (by omega), if_neg (by omega), if_pos (by omega), if_neg (by omega), if_neg (by omega), if_pos (by omega)]; exact ⟨rfl, rfl⟩
  · rw [if_neg (by omega), if_neg (by omega), if_neg (by omega), if_pos (by omega), if_neg (by omega), if_neg (by omega), if_neg (by omega), if_pos (by omega)]; exact ⟨rfl, rfl⟩
  · rw [if_neg (by omega), if_neg (by omega), if_neg (by omega), if_neg (by omega), if_pos (by omega), if_neg (by omega), if_neg (by omega), if_neg (by omega), if_neg (by omega), if_pos (by omega)]; exact ⟨rfl, rfl⟩
  · omega
theorem SizeStep.le {n k s : Nat} (h : SizeStep n k s) : k ≤ 5 ∧ s ≤ 64 := by unfold SizeStep at h; omega
theorem SizeStep.done {n k s : Nat} (h : SizeStep n k s) (h1 : ¬ s ≤ 32) : classN n = 5 ∧ sizeN n = 64 * (n / 64 + 1) := by
  have : 32 ≤ n := by unfold SizeStep at h; omega
  unfold classN sizeN
  rw [if_neg (by omega), if_neg (by omega), if_neg (by omega), if_neg (by omega), if_neg (by omega), if_neg (by omega), if_neg (by omega), if_neg (by omega), if_neg (by omega), if_neg (by omega)]
  exact ⟨rfl, rfl⟩
theorem sizes_one (w : World) : Calls Tryz.prog 158 #[.int .i64 1] w fun e w' => e = .returned (.tuple #[.int .i64 (classN 1 : Nat), .int .i64 (sizeN 1 : Nat)]) ∧ w = w' := by
  obtain ⟨A, hA⟩ : ∃ A, A = classN 1 := ⟨_, rfl⟩
  obtain ⟨B, hB⟩ : ∃ B, B = sizeN 1 := ⟨_, rfl⟩
  have H1 : Hid (∀ k s, SizeStep 1 k s → s ≤ 32 → 1 < s → A = k ∧ B = s) := fun k s x y z => by rw [hA, hB]; exact x.here y z
  have H2 : Hid (∀ k s, SizeStep 1 k s → ¬ s ≤ 32 → A = 5 ∧ B = 64 * (1 / 64 + 1)) := fun k s x y => by rw [hA, hB]; exact x.done y
  rw [← hA, ← hB]
  clear hA hB
  go_enter Tryz.func158, Tryz.ntmps158
  go_wp2
  go_loopw [4, 5] (fun a b wr => ∃ k s : Nat, a = .int .i64 k ∧ b = .int .i64 s ∧ SizeStep 1 k s ∧ wr = w) (fun a _ _ => 6 - (intOf a).toNat)
  case atStart => exact ⟨0, 2, rfl, rfl, .inl ⟨rfl, rfl⟩, rfl⟩
  case round =>
    obtain ⟨k, s, rfl, rfl, hs, rfl⟩ := hrel
    have HS := Lib.hid hs
    have hle := hs.le
    clear hs
    by_cases h32 : s ≤ 32
    · have h32' : (s : Int) ≤ 32 := by omega
      by_cases hsn : 1 < s
      · have hsn' : (1 : Int) < (s : Int) := by omega
        go_wp2
        go_ret2
        obtain ⟨e1, e2⟩ := H1.out k s HS.out h32 hsn
        subst e1 e2
        exact ⟨rfl, rfl⟩
      · have hsn' : ¬ (1 : Int) < (s : Int) := by omega
        have hn := HS.out.next h32 (by omega)
        go_wp2
        exact ⟨⟨k + 1, s * 2, by go_num, by go_num, hn, by first | rfl | trivial⟩, by simp [intOf]; omega⟩
    · have h32' : ¬ (s : Int) ≤ 32 := by omega
      go_wp2_with (go_at_call 192; refine (spages_any 1 _ (by omega) (by omega)).mono ?_; rintro e w1 ⟨rfl, rfl⟩)
      go_ret2
      obtain ⟨e1, e2⟩ := H2.out k s HS.out h32
      exact ⟨by rw [e1, e2]; go_num, rfl⟩
theorem sizes_gt (n : Nat) (w : World) (h0 : 1 < n) (h : n < 1099511627776) : Calls Tryz.prog 158 #[.int .i64 (n : Nat)] w fun e w' => e = .returned (.tuple #[.int .i64 (classN n : Nat), .int .i64 (sizeN n : Nat)]) ∧ w = w' := by
  have h0' : (1 : Int) < (n : Int) := by omega
  obtain ⟨A, hA⟩ : ∃ A, A = classN n := ⟨_, rfl⟩
  obtain ⟨B, hB⟩ : ∃ B, B = sizeN n := ⟨_, rfl⟩
  have H1 : Hid (∀ k s, SizeStep n k s → s ≤ 32 → n < s → A = k ∧ B = s) := fun k s x y z => by rw [hA, hB]; exact x.here y z
  have H2 : Hid (∀ k s, SizeStep n k s → ¬ s ≤ 32 → A = 5 ∧ B = 64 * (n / 64 + 1)) := fun k s x y => by rw [hA, hB]; exact x.done y
  rw [← hA, ← hB]
  clear hA hB
  go_enter Tryz.func158, Tryz.ntmps158
  go_wp2
  go_loopw [4, 5] (fun a b wr => ∃ k s : Nat, a = .int .i64 k ∧ b = .int .i64 s ∧ SizeStep n k s ∧ wr = w) (fun a _ _ => 6 - (intOf a).toNat)
  case atStart => exact ⟨0, 2, rfl, rfl, .inl ⟨rfl, rfl⟩, rfl⟩
  case round =>
    obtain ⟨k, s, rfl, rfl, hs, rfl⟩ := hrel
    have HS := Lib.hid hs
    have hle := hs.le
    clear hs
    by_cases h32 : s ≤ 32
    · have h32' : (s : Int) ≤ 32 := by omega
      by_cases hsn : n < s
      · have hsn' : (n : Int) < (s : Int) := by omega
        go_wp2
        go_ret2
        obtain ⟨e1, e2⟩ := H1.out k s HS.out h32 hsn
        subst e1 e2
        exact ⟨rfl, rfl⟩
      · have hsn' : ¬ (n : Int) < (s : Int) := by omega
        have hn := HS.out.next h32 (by omega)
        go_wp2
        exact ⟨⟨k + 1, s * 2, by go_num, by go_num, hn, by first | rfl | trivial⟩, by simp [intOf]; omega⟩
    · have h32' : ¬ (s : Int) ≤ 32 := by omega
      go_wp2_with (go_at_call 192; refine (spages_any _ _ (by omega) (by omega)).mono ?_; rintro e w1 ⟨rfl, rfl⟩)
      go_ret2
      obtain ⟨e1, e2⟩ := H2.out k s HS.out h32
      exact ⟨by rw [e1, e2]; go_num, rfl⟩
theorem sizes_any (n : Nat) (w : World) (h0 : 1 ≤ n) (h : n < 1099511627776) : Calls Tryz.prog 158 #[.int .i64 (n : Nat)] w fun e w' => e = .returned (.tuple #[.int .i64 (classN n : Nat), .int .i64 (sizeN n : Nat)]) ∧ w = w' := by
  rcases Nat.lt_or_eq_of_le h0 with h1 | rfl
  · exact sizes_gt n w h1 h
  · exact sizes_one w
end Go.Proofs.YtlpklloagaccoaaGreat
namespace Go.Proofs.YtlpklloagaccoaaGreat
open Go.RowKit
set_option linter.unusedVariables false

structure Bset (o : Own) (w : World) (r p n : Nat) (S : Nat → Bool) (g : Nat) (m : Nat → Nat) : Prop where
  blk : Blk o w r p (.cells #[.int .i64 (n : Nat), .slice (some ⟨g, 0, none⟩) ((n + 63) / 64) ((n + 63) / 64)] 217 (0, 0))
  own : o g = r + 1
  ws : WordsB w g ((n + 63) / 64) m
  lt : ∀ i, m i < 2 ^ 64
  is : ∀ i, i < n → (m (i / 64)).testBit (i % 64) = S i
  le : n ≤ 4096
def BsetRep (o : Own) (w : World) (r p n : Nat) (S : Nat → Bool) : Prop := ∃ g m, Bset o w r p n S g m
theorem Bset.keep {lo hi : Nat} {o o' : Own} {w w' : World} {r p n : Nat} {S : Nat → Bool} {g : Nat} {m : Nat → Nat} (h : Bset o w r p n S g m) (k : Fr lo hi o o' w w') (hr : r + 2 ≤ lo ∨ hi ≤ r) : Bset o' w' r p n S g m :=
  ⟨h.blk.keep k (by omega), (k.own g h.ws.lt).trans h.own, h.ws.of_eq (k.block g h.ws.lt (by rw [h.own]; omega)), h.lt, h.is, h.le⟩
theorem BsetRep.keep {lo hi : Nat} {o o' : Own} {w w' : World} {r p n : Nat} {S : Nat → Bool} (h : BsetRep o w r p n S) (k : Fr lo hi o o' w w') (hr : r + 2 ≤ lo ∨ hi ≤ r) : BsetRep o' w' r p n S :=
  let ⟨g, m, s⟩ := h; ⟨g, m, s.keep k hr⟩
theorem may_any {o : Own} {r p n : Nat} {S : Nat → Bool} (i : Nat) (w : World) (B : BsetRep o w r p n S) (hi : i < n) :
    Calls Tryz.prog 226 #[.pointer (some ⟨p, 0, none⟩), .int .i64 (i : Nat)] w fun e w' => e = .returned (.bool true) ∧ w = w' := by
  obtain ⟨g, m, B⟩ := B
  have c0 := B.blk.cell 0
  simp only [List.getElem?_toArray, List.getElem?_cons_zero] at c0
  have h0 : (0 : Int) ≤ (i : Int) := by omega
  have h1 : (i : Int) < (n : Int) := by omega
  go_enter Tryz.func226, Tryz.ntmps226
  go_wp2
  go_ret
  exact ⟨rfl, rfl⟩
theorem shr_one (x k : Nat) (hx : x < 2 ^ 64) : (bits .and .u64 ((x : Int) / 2 ^ k) 1 == 1) = x.testBit k := by
  have hd : x / 2 ^ k < 2 ^ 64 := Nat.lt_of_le_of_lt (Nat.div_le_self _ _) hx
  have e1 : ((x : Int) / 2 ^ k) = ((x / 2 ^ k : Nat) : Int) := by simp
  have e2 : (1 : Int) = ((1 : Nat) : Int) := rfl
  rw [e1, e2, (bits_u64 _ 1 hd (by decide)).1, Nat.testBit_eq_decide_div_mod_eq, Nat.and_one_is_mod]
  generalize x / 2 ^ k % 2 = z
  by_cases hz : z = 1 <;> simp [hz]
  omega
theorem bhas_any {o : Own} {r p n : Nat} {S : Nat → Bool} (i : Nat) (w : World) (B : BsetRep o w r p n S) (hi : i < n) :
    Calls Tryz.prog 227 #[.pointer (some ⟨p, 0, none⟩), .int .i64 (i : Nat)] w fun e w' => e = .returned (.bool (S i)) ∧ w = w' := by
  have B0 := Lib.hid B
  obtain ⟨g, m, B⟩ := B
  have c1 := B.blk.cell 1
  simp only [List.getElem?_toArray, List.getElem?_cons_zero, List.getElem?_cons_succ] at c1
  have hle := B.le
  have hlt := Lib.hid (B.lt (i / 64))
  have hs := Lib.hid (B.is i hi)
  have cw := B.ws.cell (i := i / 64) (by omega)
  have e1 : ((i : Nat) : Int).tdiv 64 = (i / 64 : Nat) := by rw [Int.tdiv_eq_ediv_of_nonneg (by omega)]; omega
  have e2 : ((i : Nat) : Int).tmod 64 = (i % 64 : Nat) := by rw [Int.tmod_eq_emod_of_nonneg (by omega)]; omega
  have h2 : (((i / 64 : Nat) : Int)) < (((n + 63) / 64 : Nat) : Int) := by omega
  have h3 : ¬ (((i % 64 : Nat) : Int)) < 0 := by omega
  have h4 : (((i % 64 : Nat) : Int)) < 64 := by omega
  clear B
  generalize m (i / 64) = x at *
  go_enter Tryz.func227, Tryz.ntmps227
  go_wp2_with (go_at_call 226; refine (may_any i _ B0.out hi).mono ?_; rintro e w1 ⟨rfl, rfl⟩)
  go_ret
  exact ⟨ret_bool (by rw [← hs.out]; exact shr_one x (i % 64) hlt.out), rfl⟩
theorem xor_u64 (a b : Nat) (ha : a < 2 ^ 64) (hb : b < 2 ^ 64) : bits .xor .u64 (a : Int) (b : Int) = ((a ^^^ b : Nat) : Int) := by
  have h1 : (BitVec.ofInt 64 (a : Int)).toNat = a := by
    rw [BitVec.ofInt_natCast, BitVec.toNat_ofNat]; exact Nat.mod_eq_of_lt ha
  have h2 : (BitVec.ofInt 64 (b : Int)).toNat = b := by
    rw [BitVec.ofInt_natCast, BitVec.toNat_ofNat]; exact Nat.mod_eq_of_lt hb
  have hlt : a ^^^ b < 2 ^ 64 := Nat.xor_lt_two_pow ha hb
  show IntKind.u64.wrap ((BitVec.ofInt 64 (a : Int) ^^^ BitVec.ofInt 64 (b : Int)).toNat : Int) = _
  rw [BitVec.toNat_xor, h1, h2, IntKind.wrap_u64]
  omega
theorem xor_pow (x k : Nat) (hx : x < 2 ^ 64) (hk : k < 64) : bits .xor .u64 (x : Int) (IntKind.u64.wrap (2 ^ k)) = ((x ^^^ 2 ^ k : Nat) : Int) := by
  have hp : 2 ^ k < 2 ^ 64 := Nat.pow_lt_pow_right (by decide) hk
  have e1 : ((2 : Int) ^ k) = ((2 ^ k : Nat) : Int) := by simp
  have e2 : IntKind.u64.wrap ((2 : Int) ^ k) = ((2 ^ k : Nat) : Int) := by
    rw [e1, IntKind.wrap_u64]
    generalize 2 ^ k = q at *
    omega
  rw [e2, xor_u64 _ _ hx hp]
theorem BsetRep.drew {o : Own} {w : World} {r p n : Nat} {S : Nat → Bool} (h : BsetRep o w r p n S) : BsetRep o w.drew r p n S :=
  let ⟨g, m, s⟩ := h; ⟨g, m, ⟨s.blk, s.own, s.ws, s.lt, s.is, s.le⟩⟩
def setS (S : Nat → Bool) (i : Nat) (b : Bool) : Nat → Bool := fun j => if j = i then b else S j
/-- Behind Add and Drop. -/
def FlipPost (o : Own) (w : World) (r p n : Nat) (S : Nat → Bool) (v : Bool) (e : Ending) (w' : World) : Prop :=
  e = .returned (.bool v) ∧ Fr r (r + 2) o o w w' ∧ BsetRep o w' r p n S
theorem Bset.flip {o : Own} {w : World} {r p n : Nat} {S : Nat → Bool} {g : Nat} {m : Nat → Nat} (B : Bset o w r p n S g m) (i : Nat) (hi : i < n) (v : Bool) (hv : S i = !v) :
    BsetRep o (w.setCell ⟨g, i / 64, none⟩ (.int .u64 ((m (i / 64) ^^^ 2 ^ (i % 64) : Nat)))) r p n (setS S i v) := by
  have hpg : p ≠ g := fun e => by have h1 := B.blk.1; have h2 := B.own; rw [e] at h1; omega
  refine ⟨g, updN m (i / 64) (m (i / 64) ^^^ 2 ^ (i % 64)), B.blk.of_eq (Below.heap_setCell _ _ _ _ hpg), B.own, B.ws.set _ _, fun j => ?_, fun j hj => ?_, B.le⟩
  · unfold updN
    split
    · exact Nat.xor_lt_two_pow (B.lt _) (Nat.pow_lt_pow_right (by decide) (by omega))
    · exact B.lt j
  · unfold updN setS
    have hs := B.is j hj
    by_cases hq : j / 64 = i / 64
    · rw [if_pos hq, Nat.testBit_xor, Nat.testBit_two_pow]
      by_cases hji : j = i
      · subst hji
        rw [if_pos rfl, hs, hv]; simp
      · have : ¬ i % 64 = j % 64 := by omega
        rw [if_neg hji, ← hs, hq]; simp [this]
    · have hji : ¬ j = i := fun e => hq (by rw [e])
      rw [if_neg hq, if_neg hji, hs]
theorem setS_same (S : Nat → Bool) (i : Nat) (b : Bool) (h : S i = b) : setS S i b = S := by
  funext j; unfold setS; split
  · rename_i e; rw [e, h]
  · rfl
set_option maxHeartbeats 400000 in
theorem flip_any {o : Own} {r p n : Nat} {S : Nat → Bool} (i : Nat) (was : Bool) (w : World) (ho : Owned o w) (B : BsetRep o w r p n S) (hi : i < n) :
    Calls Tryz.prog 208 #[.pointer (some ⟨p, 0, none⟩), .int .i64 (i : Nat), .bool was] w (FlipPost o w r p n (setS S i (!was)) (S i == was)) := by
  have B0 := Lib.hid B
  have hnot : ∀ (x : Bool) (w : World), (Op.unary .not (.bool x)).run Tryz.prog w = .ok (.bool (!x)) w := fun _ _ => rfl
  obtain ⟨s, hs⟩ : ∃ s, s = S i := ⟨_, rfl⟩
  by_cases hw : s = was
  · subst hw
    obtain ⟨g, m, B⟩ := B
    have hres := Lib.hid (show (S i == S i) = true by simp)
    have HB := Lib.hid (B.flip i hi (!s) (by rw [hs]; simp))
    have c1 := B.blk.cell 1
    simp only [List.getElem?_toArray, List.getElem?_cons_zero, List.getElem?_cons_succ] at c1
    have hle := B.le
    have HS := Lib.hid hs
    have hlt := Lib.hid (B.lt (i / 64))
    have cw := B.ws.cell (i := i / 64) (by omega)
    have fw := B.ws.free (i / 64)
    have HO := Lib.hid B.own
    have e1 : ((i : Nat) : Int).tdiv 64 = (i / 64 : Nat) := by rw [Int.tdiv_eq_ediv_of_nonneg (by omega)]; omega
    have e2 : ((i : Nat) : Int).tmod 64 = (i % 64 : Nat) := by rw [Int.tmod_eq_emod_of_nonneg (by omega)]; omega
    have h2 : (((i / 64 : Nat) : Int)) < (((n + 63) / 64 : Nat) : Int) := by omega
    have h3 : ¬ (((i % 64 : Nat) : Int)) < 0 := by omega
    have h4 : (((i % 64 : Nat) : Int)) < 64 := by omega
    clear B
    clear hs
    generalize m (i / 64) = x at *
    go_enter Tryz.func208, Tryz.ntmps208
    go_wp2_with (first
      | (go_at_call 226; refine (may_any i _ B0.out hi).mono ?_; rintro e w1 ⟨rfl, rfl⟩)
      | (go_at_call 227; refine (bhas_any i _ B0.out hi).mono ?_; rintro e w1 ⟨rfl, rfl⟩; rw [← HS.out]))
    go_region
    all_goals
      go_wp2
      go_ret
      rw [xor_pow x (i % 64) hlt.out (by omega)]
      refine ⟨ret_bool (by rw [← HS.out]; simp), ((Fr.refl ho).setCell _ _ (.inl ⟨by simp only [HO.out]; omega, by simp only [HO.out]; omega⟩)).drew, HB.out.drew⟩
  · have hsw : (s == was) = false := by simp [hw]
    have hres := Lib.hid (show (S i == was) = false by rw [← hs]; exact hsw)
    have hsame := Lib.hid (setS_same S i (!was) (by rw [← hs]; cases s <;> cases was <;> simp_all))
    have hne : (s != was) = true := by simp [hw]
    have HS := Lib.hid hs
    clear hs
    go_enter Tryz.func208, Tryz.ntmps208
    go_wp2_with (first
      | (go_at_call 226; refine (may_any i _ B0.out hi).mono ?_; rintro e w1 ⟨rfl, rfl⟩)
      | (go_at_call 227; refine (bhas_any i _ B0.out hi).mono ?_; rintro e w1 ⟨rfl, rfl⟩; rw [← HS.out]))
    go_ret
    refine ⟨ret_bool hres.out.symm, Fr.refl ho, ?_⟩
    rw [hsame.out]; exact B0.out
theorem badd_any {o : Own} {r p n : Nat} {S : Nat → Bool} (i : Nat) (w : World) (ho : Owned o w) (B : BsetRep o w r p n S) (hi : i < n) :
    Calls Tryz.prog 191 #[.pointer (some ⟨p, 0, none⟩), .int .i64 (i : Nat)] w (FlipPost o w r p n (setS S i true) (S i == false)) := by
  have H := Lib.hid (flip_any i false w ho B hi)
  go_enter Tryz.func191, Tryz.ntmps191
  go_wp2_with (go_at_call 208; refine H.out.mono ?_; rintro e w1 ⟨rfl, hf, hb⟩)
  go_ret
  exact ⟨ret_bool (by cases S i <;> rfl), hf, hb⟩
theorem bdrop_any {o : Own} {r p n : Nat} {S : Nat → Bool} (i : Nat) (w : World) (ho : Owned o w) (B : BsetRep o w r p n S) (hi : i < n) :
    Calls Tryz.prog 229 #[.pointer (some ⟨p, 0, none⟩), .int .i64 (i : Nat)] w (FlipPost o w r p n (setS S i false) (S i == true)) := by
  have H := Lib.hid (flip_any i true w ho B hi)
  go_enter Tryz.func229, Tryz.ntmps229
  go_wp2_with (go_at_call 208; refine H.out.mono ?_; rintro e w1 ⟨rfl, hf, hb⟩)
  go_ret
  exact ⟨ret_bool (by cases S i <;> rfl), hf, hb⟩
/-- A new set. -/
def BsetNew (o : Own) (w : World) (r n : Nat) (e : Ending) (w' : World) : Prop :=
  ∃ p o', e = .returned (.pointer (some ⟨p, 0, none⟩)) ∧ Fr r (r + 2) o o' w w' ∧ BsetRep o' w' r p n (fun _ => false)
theorem bset_made {o : Own} {w : World} (ho : Owned o w) (r n : Nat) (hn : n ≤ 4096) :
    BsetNew o w r n (.returned (.pointer (some ⟨w.heap.size + 1, 0, none⟩))) ((w.alloc (.cells (madeCells (Value.int .u64 0).cells ((n + 63) / 64 * 1)) 55)).alloc (.cells #[.int .i64 (n : Nat), .slice (some ⟨w.heap.size, 0, none⟩) ((n + 63) / 64) ((n + 63) / 64)] 217)) := by
  have f1 := (Fr.refl (lo := r) (hi := r + 2) ho).give (.cells (madeCells (Value.int .u64 0).cells ((n + 63) / 64 * 1)) 55) (r + 1)
  have f2 := f1.give (.cells #[.int .i64 (n : Nat), .slice (some ⟨w.heap.size, 0, none⟩) ((n + 63) / 64) ((n + 63) / 64)] 217) r
  simp only [World.size_alloc] at f2
  refine ⟨_, _, rfl, f2, w.heap.size, fun _ => 0, ⟨by simp [Own.give], ?_⟩, ?_, ?_, fun _ => by decide, fun _ _ => by simp, hn⟩
  · have := heap_alloc_new (w.alloc (.cells (madeCells (Value.int .u64 0).cells ((n + 63) / 64 * 1)) 55)) (.cells #[.int .i64 (n : Nat), .slice (some ⟨w.heap.size, 0, none⟩) ((n + 63) / 64) ((n + 63) / 64)] 217)
    simp only [World.size_alloc] at this
    exact this
  · simp [Own.give]
  · exact (WordsB.made w ((n + 63) / 64)).of_eq (Below.heap_alloc _ _ _ (by simp))
set_option maxRecDepth 100000 in
theorem bset_new {o : Own} (r n : Nat) (w : World) (ho : Owned o w) (h1 : 1 ≤ n) (hn : n ≤ 4096) :
    Calls Tryz.prog 190 #[.int .i64 (n : Nat)] w (BsetNew o w r n) := by
  have H := Lib.hid (bset_made ho r n hn)
  obtain ⟨i, hi, hz, hsz, hby⟩ : ∃ i, Tryz.prog.info? 55 = some i ∧ i.zero = some (.int .u64 0) ∧ i.size = 1 ∧ i.bytes = 8 := by
    have h := infoU64
    cases hp : Tryz.prog.info? 55 with
    | none => rw [hp] at h; cases h
    | some i => rw [hp] at h; simp only [Option.map_some, Option.some.injEq, Prod.mk.injEq] at h; exact ⟨i, rfl, h.1, h.2.1, h.2.2⟩
  have e0 : ((n : Int) + 64 - 1).tdiv 64 = ((n + 63) / 64 : Nat) := by rw [Int.tdiv_eq_ediv_of_nonneg (by omega)]; omega
  have hmk := run_make (P := Tryz.prog) w 114 55 i (.int .u64 0) Tryz.underlying114 hi hz .i64 .i64 ((n + 63) / 64 : Nat) ((n + 63) / 64 : Nat) (by omega) (Int.le_refl _) (by rw [hby]; omega) (by omega)
  rw [Int.toNat_natCast, hsz] at hmk
  clear hi hz hsz hby
  generalize madeCells (Value.int .u64 0).cells ((n + 63) / 64 * 1) = row at *
  rw [show (((n + 63) / 64 : Nat) : Int) = ((n : Int) + 63) / 64 by omega] at hmk
  have n1 : (n : Int) ≤ 1000000 := by omega
  have n2 : (0 : Int) ≤ (n : Int) := by omega
  go_enter Tryz.func190, Tryz.ntmps190
  go_wp2
  all_goals
    go_ret
    exact H.out
end Go.Proofs.YtlpklloagaccoaaGreat
namespace Go.Proofs.YtlpklloagaccoaaGreat
open Go.RowKit
set_option linter.unusedVariables false

def runN (n t k : Nat) : Int := if t + k ≤ n then (t : Int) else -1
theorem run_prefix {o : Own} {r p n t : Nat} (k : Nat) (w : World) (B : BsetRep o w r p n (fun i => decide (i < t))) (h1 : 1 ≤ k) (h2 : k < 1099511627776) :
    Calls Tryz.prog 228 #[.pointer (some ⟨p, 0, none⟩), .int .i64 (k : Nat)] w fun e w' => e = .returned (.int .i64 (runN n t k)) ∧ w = w' := by
  have HB := Lib.hid B
  have c0 : w.cell? ⟨p, 0, none⟩ = some (.int .i64 (n : Nat)) := by
    obtain ⟨g, m, B⟩ := B
    have c0 := B.blk.cell 0
    simpa using c0
  have hn : n ≤ 4096 := by obtain ⟨g, m, B⟩ := B; exact B.le
  clear B
  obtain ⟨R, hR⟩ : ∃ R, R = runN n t k := ⟨_, rfl⟩
  have HR := Lib.hid hR
  rw [← hR]
  clear hR
  have k1 : (1 : Int) ≤ (k : Int) := by omega
  go_enter Tryz.func228, Tryz.ntmps228
  go_wp2
  all_goals
    first
    | (exfalso; omega)
    | skip
  all_goals
    go_loopw [5, 13] (fun rv iv wr => ∃ i : Nat, rv = .int .i64 (i - t : Nat) ∧ iv = .int .i64 i ∧ i ≤ n ∧ i - t < k ∧ wr = w) (fun _ iv _ => n - (intOf iv).toNat)
    case atStart => exact ⟨0, by simp, rfl, by omega, by omega, rfl⟩
    case round =>
      obtain ⟨i, rfl, rfl, hi, hk, rfl⟩ := hrel
      by_cases hin : i < n
      · have hin' : (i : Int) < (n : Int) := by omega
        by_cases hit : i < t
        · have hd := Lib.hid (show decide (i < t) = true by simp [hit])
          have hz : ((0 : Int) == (k : Int)) = false := by first | (simp; done) | (simp; omega)
          go_wp2_with (go_at_call 227; refine (bhas_any i _ HB.out hin).mono ?_; rintro e w1 ⟨rfl, rfl⟩; rw [hd.out])
          exact ⟨⟨i + 1, by rw [show i + 1 - t = 0 by omega]; rfl, by go_num, by omega, by omega, by first | rfl | trivial⟩, by simp [intOf]; omega⟩
        · have hd := Lib.hid (show decide (i < t) = false by simp [hit])
          by_cases hr : i + 1 - t = k
          · have hz : (((i - t : Nat) : Int) + 1 == (k : Int)) = true := by first | (simp; done) | (simp; omega)
            go_wp2_with (go_at_call 227; refine (bhas_any i _ HB.out hin).mono ?_; rintro e w1 ⟨rfl, rfl⟩; rw [hd.out])
            go_ret
            exact ⟨ret_int (by rw [HR.out]; unfold runN; rw [if_pos (by omega)]; omega), rfl⟩
          · have hz : (((i - t : Nat) : Int) + 1 == (k : Int)) = false := by first | (simp; done) | (simp; omega)
            first
            | (exfalso; omega)
            | (go_wp2_with (go_at_call 227; refine (bhas_any i _ HB.out hin).mono ?_; rintro e w1 ⟨rfl, rfl⟩; rw [hd.out])
               exact ⟨⟨i + 1, by rw [show i + 1 - t = i - t + 1 by omega]; go_num, by go_num, by omega, by omega, by first | rfl | trivial⟩, by simp [intOf]; omega⟩)
      · have hin' : ¬ (i : Int) < (n : Int) := by omega
        go_wp2
        go_ret
        obtain rfl : i = n := by omega
        exact ⟨by rw [HR.out]; exact ret_int (by unfold runN; rw [if_neg (by omega)]), rfl⟩
end Go.Proofs.YtlpklloagaccoaaGreat
