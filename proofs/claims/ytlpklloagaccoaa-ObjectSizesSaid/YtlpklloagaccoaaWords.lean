/- Rows of words of 64 bits, as functions; the words that nobody writes (guard). Conditions: places in range. -/
import Derived.Test.YtlpklloagaccoaaBase
import Derived.Lib.SliceRun
namespace Go.Proofs.Ytlpklloagaccoaa
open Go.RowKit
set_option linter.unusedVariables false

theorem infoU64 : (Try.prog.info? 57).map (fun i => (i.zero, i.size, i.bytes)) = some (some (.int .u64 0), 1, 8) := by kernel_rfl
theorem zero_u64 (w : World) : (zeroValue 57).run Try.prog w = .ok (.int .u64 0) w := by kernel_rfl

/-- Block g is n words: m. -/
def WordsB (w : World) (g n : Nat) (m : Nat → Nat) : Prop :=
  ∃ cs : Array Value, w.heap[g]? = some (.cells cs 57 (0, 0)) ∧ cs.size = n ∧ ∀ i, i < n → cs[i]? = some (.int .u64 (m i : Nat))
theorem WordsB.cell {w : World} {g n : Nat} {m : Nat → Nat} (h : WordsB w g n m) {i : Nat} (hi : i < n) : w.cell? ⟨g, i, none⟩ = some (.int .u64 (m i : Nat)) := by
  obtain ⟨cs, h1, h2, h3⟩ := h
  simp [World.cell?, h1, h3 i hi]
theorem WordsB.free {w : World} {g n : Nat} {m : Nat → Nat} (h : WordsB w g n m) (i : Nat) : w.frozen? ⟨g, i, none⟩ = false := by
  obtain ⟨cs, h1, h2, h3⟩ := h
  simp [World.frozen?, h1]
theorem WordsB.of_eq {w w' : World} {g n : Nat} {m : Nat → Nat} (h : WordsB w g n m) (e : w'.heap[g]? = w.heap[g]?) : WordsB w' g n m :=
  let ⟨cs, h1, h2, h3⟩ := h; ⟨cs, e.trans h1, h2, h3⟩
theorem WordsB.lt {w : World} {g n : Nat} {m : Nat → Nat} (h : WordsB w g n m) : g < w.heap.size := let ⟨_, h1, _⟩ := h; lt_of_block h1
theorem WordsB.congr {w : World} {g n : Nat} {m m' : Nat → Nat} (h : WordsB w g n m) (e : ∀ i, i < n → m' i = m i) : WordsB w g n m' :=
  let ⟨cs, h1, h2, h3⟩ := h; ⟨cs, h1, h2, fun i hi => by rw [e i hi]; exact h3 i hi⟩
def updN (m : Nat → Nat) (k v : Nat) : Nat → Nat := fun i => if i = k then v else m i
theorem WordsB.set {w : World} {g n : Nat} {m : Nat → Nat} (h : WordsB w g n m) (k v : Nat) : WordsB (w.setCell ⟨g, k, none⟩ (.int .u64 (v : Nat))) g n (updN m k v) := by
  obtain ⟨cs, h1, h2, h3⟩ := h
  refine ⟨_, heap_set h1 k _, by simpa using h2, fun i hi => ?_⟩
  unfold updN
  by_cases hk : i = k
  · subst hk; simp [h2, hi]
  · have hk' : ¬ k = i := fun e => hk e.symm
    rw [Array.getElem?_setIfInBounds]
    simp [hk', hk, h3 i hi]
theorem WordsB.setCells {w : World} {g n : Nat} {m : Nat → Nat} (h : WordsB w g n m) : ∀ (c a : Nat), WordsB (w.setCells g a (List.replicate c (.int .u64 0))) g n (fun i => if a ≤ i ∧ i < a + c then 0 else m i)
  | 0, a => h.congr fun i _ => if_neg (by omega)
  | c + 1, a => by
    rw [List.replicate_succ]
    have h1 := h.set a 0
    have h2 := WordsB.setCells h1 c (a + 1)
    refine WordsB.congr h2 fun i _ => ?_
    unfold updN
    split <;> split <;> (try split) <;> (try rfl) <;> (exfalso; omega)
theorem setCells_block (g : Nat) : ∀ (vs : List Value) (a : Nat) (w : World), (∀ b, b ≠ g → (w.setCells g a vs).heap[b]? = w.heap[b]?) ∧ (w.setCells g a vs).heap.size = w.heap.size ∧ (w.setCells g a vs).os = w.os ∧ (w.setCells g a vs).tape = w.tape ∧ (w.setCells g a vs).output = w.output
  | [], a, w => ⟨fun _ _ => rfl, rfl, rfl, rfl, rfl⟩
  | v :: vs, a, w => by
    obtain ⟨h1, h2, h3, h4, h5⟩ := setCells_block g vs (a + 1) (w.setCell ⟨g, a, none⟩ v)
    exact ⟨fun b hb => (h1 b hb).trans (Below.heap_setCell _ _ _ _ hb), h2.trans (by simp), h3, h4, h5⟩
theorem WordsB.made (w : World) (n : Nat) : WordsB (w.alloc (.cells (madeCells (Value.int .u64 0).cells (n * 1)) 57)) w.heap.size n (fun _ => 0) := by
  refine ⟨_, heap_alloc_new w _, by rw [size_madeCells]; omega, fun i hi => ?_⟩
  have h := toList_madeCells_one (.int .u64 0) (n * 1)
  have e : (Value.int .u64 0).cells = #[.int .u64 0] := rfl
  rw [e, ← Array.getElem?_toList, h, List.getElem?_replicate]
  simp [hi]

/-! ### guard -/
/-- The word behind what was asked for; the word in what was freed. -/
def canW (a : Int) : Nat := (bits .xor .u64 (IntKind.u64.wrap a) 54324593428463829).toNat
def poiW (a : Int) : Nat := (bits .xor .u64 (IntKind.u64.wrap a) 16045690675887209166).toNat
theorem xor_range (a b : Int) : 0 ≤ bits .xor .u64 a b ∧ bits .xor .u64 a b < 18446744073709551616 := by
  show 0 ≤ IntKind.u64.wrap _ ∧ IntKind.u64.wrap _ < _
  simp only [IntKind.wrap_u64]
  omega
theorem canary_any (a : Int) (w : World) : Calls Try.prog 50 #[.int .i64 a] w fun e w' => e = .returned (.int .u64 (canW a : Nat)) ∧ w = w' := by
  go_enter Try.func50, Try.ntmps50
  go_wp2
  go_ret
  exact ⟨ret_int (by unfold canW; rw [Int.toNat_of_nonneg (xor_range _ _).1]), rfl⟩
theorem poison_any (a : Int) (w : World) : Calls Try.prog 88 #[.int .i64 a] w fun e w' => e = .returned (.int .u64 (poiW a : Nat)) ∧ w = w' := by
  go_enter Try.func88, Try.ntmps88
  go_wp2
  go_ret
  exact ⟨ret_int (by unfold poiW; rw [Int.toNat_of_nonneg (xor_range _ _).1]), rfl⟩
/-- The words from a on, n of them, are as nobody wrote them. -/
def wholeB (m : Nat → Nat) (a n : Nat) (f : Int) (fr : Bool) : Bool := decide (∀ i, i < n → m (a + i) = if fr then poiW (f + i) else canW (f + i))
theorem whole_any (g N a n cap : Nat) (m : Nat → Nat) (f : Int) (fr : Bool) (w : World) (W : WordsB w g N m) (h1 : a + n ≤ N) (h2 : N < 1099511627776) (f0 : 0 ≤ f) (f1 : f < 1099511627776) :
    Calls Try.prog 85 #[.slice (some ⟨g, a, none⟩) n cap, .int .i64 f, .bool fr] w fun e w' => e = .returned (.bool (wholeB m a n f fr)) ∧ w = w' := by
  have HN := Lib.hid W
  have HA := Lib.hid h1
  obtain ⟨fr', hfr⟩ : ∃ b, b = fr := ⟨_, rfl⟩
  have HFR := Lib.hid hfr
  clear hfr
  cases fr
  all_goals
    go_enter Try.func85, Try.ntmps85
    go_wp2
    go_loopw [13] (fun jv wr => ∃ j : Nat, jv = .int .i64 j ∧ j ≤ n ∧ wr = w ∧ ∀ i, i < j → m (a + i) = if fr' then poiW (f + i) else canW (f + i)) (fun jv _ => n - (intOf jv).toNat)
    case atStart => exact ⟨0, rfl, by omega, rfl, fun i hi => absurd hi (by omega)⟩
    case round =>
      obtain ⟨j, rfl, hj, rfl, hall⟩ := hrel
      have HALL := Lib.hid hall
      clear hall
      by_cases hjn : j < n
      · have hjn' : (j : Int) < (n : Int) := by omega
        have hcl := HN.out.cell (i := a + j) (by omega)
        obtain ⟨want, hw⟩ : ∃ x, x = if fr' then poiW (f + j) else canW (f + j) := ⟨_, rfl⟩
        have HW := Lib.hid hw
        have HWT : Hid (∀ x : Nat, poiW (f + j) = x → fr' = true → want = x) := fun x h h' => by rw [HW.out, h', if_pos rfl, h]
        have HWF : Hid (∀ x : Nat, canW (f + j) = x → fr' = false → want = x) := fun x h h' => by rw [HW.out, h']; simpa using h
        have HWA : Hid (∀ jj : Nat, jj = j → want = if fr' = true then poiW (f + jj) else canW (f + jj)) := fun jj e => by rw [e, HW.out]
        clear hw
        generalize hv : m (a + j) = v at hcl
        have HV := Lib.hid hv
        clear hv
        have HRET : Hid (¬ v = want → wholeB m a n f fr' = false) := fun hne => by
          unfold wholeB
          rw [decide_eq_false_iff_not]
          intro hall
          exact hne (by rw [← HV.out, hall j hjn]; exact (HWA.out j rfl).symm)
        by_cases hx : v = want
        · have hx' : ((v : Int) != (want : Int)) = false := by simp [hx]
          have HX := Lib.hid hx
          clear hx
          go_wp2_with (first
            | (go_at_call 50; refine (canary_any _ _).mono ?_; rintro e w1 ⟨rfl, rfl⟩; generalize hcc : canW (f + j) = c at *; obtain rfl := HWF.out _ rfl HFR.out)
            | (go_at_call 88; refine (poison_any _ _).mono ?_; rintro e w1 ⟨rfl, rfl⟩; generalize hcc : poiW (f + j) = c at *; obtain rfl := HWT.out _ rfl HFR.out))
          exact ⟨⟨j + 1, by go_num, by omega, by first | rfl | trivial, fun i hi => by
            rcases Nat.lt_or_ge i j with h | h
            · exact HALL.out i h
            · obtain rfl : i = j := by omega
              rw [HV.out, HX.out]; exact HWA.out _ rfl⟩, by simp [intOf]; omega⟩
        · have hx' : ((v : Int) != (want : Int)) = true := by simp; omega
          have HX := Lib.hid hx
          clear hx
          go_wp2_with (first
            | (go_at_call 50; refine (canary_any _ _).mono ?_; rintro e w1 ⟨rfl, rfl⟩; generalize hcc : canW (f + j) = c at *; obtain rfl := HWF.out _ rfl HFR.out)
            | (go_at_call 88; refine (poison_any _ _).mono ?_; rintro e w1 ⟨rfl, rfl⟩; generalize hcc : poiW (f + j) = c at *; obtain rfl := HWT.out _ rfl HFR.out))
          go_ret
          refine ⟨ret_bool ?_, rfl⟩
          have := HRET.out HX.out
          rw [HFR.out] at this
          exact this.symm
      · have hjn' : ¬ (j : Int) < (n : Int) := by omega
        go_wp2
        go_ret
        obtain rfl : j = n := by omega
        refine ⟨ret_bool ?_, rfl⟩
        have : wholeB m a j f fr' = true := by unfold wholeB; rw [decide_eq_true_eq]; exact HALL.out
        rw [HFR.out] at this
        exact this.symm
end Go.Proofs.Ytlpklloagaccoaa
