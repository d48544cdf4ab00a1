/- Plain facts on heaps of rising numbers: in which order they go. No condition. The arena's state, and what lies where of it; has, Read, Write, used, Size. Conditions: the arena is as one that was made. What the arena's calls that give blocks out do, in plain functions, and what stays true of an arena in which nothing was freed. No condition. -/
import Derived.Test.YtlpklloagaccoaaGreatHeapPop
import Derived.Test.YtlpklloagaccoaaGreatRun
import Derived.Test.YtlpklloagaccoaaGreatLine
import Derived.Test.YtlpklloagaccoaaGreatArHeap
namespace Go.Proofs.YtlpklloagaccoaaGreat
open Go.RowKit
set_option linter.unusedVariables false

theorem getD_map_lt {f : Int → Int} {xs : List Int} {i : Nat} (h : i < xs.length) : (xs.map f).getD i 0 = f (xs.getD i 0) := by simp [List.getD, h]
theorem swapL_map (f : Int → Int) (xs : List Int) {i j : Nat} (hi : i < xs.length) (hj : j < xs.length) : swapL (xs.map f) i j = (swapL xs i j).map f := by
  unfold swapL
  rw [getD_map_lt hi, getD_map_lt hj, List.map_set, List.map_set]
theorem pickJ_map {f : Int → Int} (hf : ∀ a b, f a < f b ↔ a < b) (xs : List Int) (i n : Nat) (hn : n ≤ xs.length) : pickJ (xs.map f) i n = pickJ xs i n := by
  unfold pickJ
  by_cases h : 2 * i + 2 < n
  · simp only [getD_map_lt (show 2 * i + 2 < xs.length by omega), getD_map_lt (show 2 * i + 1 < xs.length by omega), hf]
  · rw [if_neg (fun e => h e.1), if_neg (fun e => h e.1)]
theorem downL_map {f : Int → Int} (hf : ∀ a b, f a < f b ↔ a < b) : ∀ (k : Nat) (xs : List Int) (i n : Nat), n ≤ xs.length → downL k (xs.map f) i n = (downL k xs i n).map f
  | 0, _, _, _, _ => rfl
  | k + 1, xs, i, n, hn => by
    rw [downL_succ, downL_succ, pickJ_map hf xs i n hn]
    by_cases h : n ≤ 2 * i + 1
    · rw [if_pos h, if_pos h]
    · have hp : pickJ xs i n < n := by unfold pickJ; split <;> omega
      rw [if_neg h, if_neg h]
      simp only [getD_map_lt (show pickJ xs i n < xs.length by omega), getD_map_lt (show i < xs.length by omega), hf]
      by_cases h2 : xs.getD (pickJ xs i n) 0 < xs.getD i 0
      · rw [if_pos h2, if_pos h2, swapL_map f xs (by omega) (by omega)]
        exact downL_map hf k _ _ n (by rw [swapL_length]; exact hn)
      · rw [if_neg h2, if_neg h2]
theorem popL_map {f : Int → Int} (hf : ∀ a b, f a < f b ↔ a < b) (xs : List Int) : popL (xs.map f) = (popL xs).map f := by
  cases xs with
  | nil => rfl
  | cons x xs =>
    unfold popL
    rw [List.length_map, swapL_map f _ (by simp) (by simp), downL_map hf _ _ _ _ (by rw [swapL_length]; simp), List.map_take]
/-- Behind j pops. -/
def popN : Nat → List Int → List Int
  | 0, xs => xs
  | j + 1, xs => popL (popN j xs)
theorem popN_length : ∀ (j : Nat) (xs : List Int), (popN j xs).length = xs.length - j
  | 0, _ => rfl
  | j + 1, xs => by
    show (popL (popN j xs)).length = _
    rw [popL_length, popN_length j xs]; omega
theorem popN_map {f : Int → Int} (hf : ∀ a b, f a < f b ↔ a < b) (xs : List Int) : ∀ j, popN j (xs.map f) = (popN j xs).map f
  | 0 => rfl
  | j + 1 => by
    show popL (popN j (xs.map f)) = (popL (popN j xs)).map f
    rw [popN_map hf xs j, popL_map hf]
def seq0 (k : Nat) : List Int := (List.range k).map fun (i : Nat) => (i : Int)
theorem seq0_length (k : Nat) : (seq0 k).length = k := by simp [seq0]
/-- Numbers that rise by steps. -/
def seqL (base size k : Nat) : List Int := (seq0 k).map fun x => (base : Int) + x * size
theorem seqL_length (base size k : Nat) : (seqL base size k).length = k := by simp [seqL, seq0]
theorem seqL_succ (base size k : Nat) : seqL base size (k + 1) = seqL base size k ++ [((base + k * size : Nat) : Int)] := by
  simp [seqL, seq0, List.range_succ]
theorem seqL_getD (base size k : Nat) {i : Nat} (h : i < k) : (seqL base size k).getD i 0 = ((base + i * size : Nat) : Int) := by
  simp [seqL, seq0, List.getD, h]
/-- How many blocks of a class stand in a page; how long they are. -/
def perN (c : Nat) : Nat := 32 / 2 ^ c
def lenN (c : Nat) : Nat := 2 ^ (c + 1)
theorem cls_cases {c : Nat} (h : c < 5) : (c = 0 ∨ c = 1 ∨ c = 2 ∨ c = 3 ∨ c = 4) := by omega
theorem per_len {c : Nat} (h : c < 5) : perN c * lenN c = 64 ∧ 2 ≤ perN c ∧ perN c ≤ 32 ∧ 2 ≤ lenN c ∧ lenN c ≤ 32 := by
  rcases cls_cases h with rfl | rfl | rfl | rfl | rfl <;> decide
theorem head0 {c : Nat} (h : c < 5) {j : Nat} (hj : j < perN c) : (popN j (seq0 (perN c))).getD 0 0 = (j : Int) := by
  have H : ∀ c, c < 5 → ∀ j, j < perN c → (popN j (seq0 (perN c))).getD 0 0 = (j : Int) := by decide +kernel
  exact H c h j hj
/-- The row of a class from whose page j are gone. -/
def rowAt (c pg j : Nat) : List Int := popN j (seqL (pg * 64) (lenN c) (perN c))
theorem rowAt_length (c pg j : Nat) : (rowAt c pg j).length = perN c - j := by unfold rowAt; rw [popN_length, seqL_length]
theorem rowAt_head {c : Nat} (h : c < 5) (pg : Nat) {j : Nat} (hj : j < perN c) : (rowAt c pg j).getD 0 0 = ((pg * 64 + j * lenN c : Nat) : Int) := by
  have hl := per_len h
  have hf : ∀ a b : Int, ((pg * 64 : Nat) : Int) + a * (lenN c : Nat) < ((pg * 64 : Nat) : Int) + b * (lenN c : Nat) ↔ a < b := fun a b => by
    constructor
    · intro h
      have h2 : a * (lenN c : Nat) < b * (lenN c : Nat) := by omega
      exact Int.lt_of_mul_lt_mul_right h2 (by omega)
    · intro h
      have := Int.mul_lt_mul_of_pos_right h (show (0 : Int) < (lenN c : Nat) by omega)
      omega
  unfold rowAt seqL
  rw [popN_map hf, getD_map_lt (by rw [popN_length, seq0_length]; omega), head0 h hj]
  simp
theorem rowAt_pop (c pg j : Nat) : popL (rowAt c pg j) = rowAt c pg (j + 1) := rfl
theorem rowAt_zero (c pg : Nat) : rowAt c pg 0 = seqL (pg * 64) (lenN c) (perN c) := rfl
theorem rowAt_none (c pg : Nat) : rowAt c pg (perN c) = [] := List.eq_nil_of_length_eq_zero (by rw [rowAt_length]; omega)
theorem seqL_noUp (base size k : Nat) (h : 0 < size) : NoUp (seqL base size k ++ [((base + k * size : Nat) : Int)]) k := by
  rw [← seqL_succ]
  unfold NoUp
  by_cases h0 : k = 0
  · exact .inl h0
  · refine .inr ?_
    rw [seqL_getD _ _ _ (by omega), seqL_getD _ _ _ (by omega)]
    have := Nat.mul_le_mul_right size (show (k - 1) / 2 ≤ k by omega)
    omega
/-- Sizes by class. -/
theorem class_le (n : Nat) : classN n ≤ 5 := by unfold classN; split <;> (try split) <;> (try split) <;> (try split) <;> (try split) <;> omega
theorem size_small {n : Nat} (h : classN n < 5) : sizeN n = lenN (classN n) ∧ n < sizeN n := by
  unfold classN at h
  unfold sizeN classN lenN
  by_cases h1 : n < 2
  · simp only [h1, if_true]; exact ⟨by decide, by first | trivial | omega⟩
  · by_cases h2 : n < 4
    · simp only [h1, h2, if_true, if_false]; exact ⟨by decide, by first | trivial | omega⟩
    · by_cases h3 : n < 8
      · simp only [h1, h2, h3, if_true, if_false]; exact ⟨by decide, by first | trivial | omega⟩
      · by_cases h4 : n < 16
        · simp only [h1, h2, h3, h4, if_true, if_false]; exact ⟨by decide, by first | trivial | omega⟩
        · by_cases h5 : n < 32
          · simp only [h1, h2, h3, h4, h5, if_true, if_false]; exact ⟨by decide, by first | trivial | omega⟩
          · simp [h1, h2, h3, h4, h5] at h
theorem size_large {n : Nat} (h : classN n = 5) : sizeN n = 64 * (n / 64 + 1) ∧ 32 ≤ n := by
  unfold classN at h
  by_cases h1 : n < 2
  · simp [h1] at h
  · by_cases h2 : n < 4
    · simp [h1, h2] at h
    · by_cases h3 : n < 8
      · simp [h1, h2, h3] at h
      · by_cases h4 : n < 16
        · simp [h1, h2, h3, h4] at h
        · by_cases h5 : n < 32
          · simp [h1, h2, h3, h4, h5] at h
          · unfold sizeN; simp [h1, h2, h3, h4, h5]; omega
theorem Row.keepA {lo hi r : Nat} {o o' : Own} {w w' : World} {v : Value} {xs : List Int} (h : Row w v xs) (hw : ∀ g, v.ownBlock = some g → o g = r) (k : Fr lo hi o o' w w') (hr : r < lo ∨ hi ≤ r) : Row w' v xs ∧ ∀ g, v.ownBlock = some g → o' g = r := by
  rcases h.form with ⟨rfl, rfl⟩ | ⟨g, cap, rfl, R⟩
  · exact ⟨Row.nil _, fun g hg => by cases hg⟩
  · have hg := hw g rfl
    exact ⟨(R.of_eq (k.block g R.lt (by rw [hg]; exact hr))).row, fun g' hg' => by
      simp only [Value.ownBlock, Option.some.injEq] at hg'
      subst hg'
      exact (k.own g R.lt).trans hg⟩
end Go.Proofs.YtlpklloagaccoaaGreat
namespace Go.Proofs.YtlpklloagaccoaaGreat
open Go.RowKit
set_option linter.unusedVariables false

/-- A block: its length, what was asked for, its state. -/
structure Bl where
  size : Nat
  asked : Nat
  state : Nat
/-- An arena: pages, those that were taken (a mark above all of them, which, the runs), words, blocks, rows of free ones. -/
structure ArS where
  n : Nat
  t : Nat
  pg : Nat → Bool
  R : Runs
  m : Nat → Nat
  bl : Int → Option Bl
  rows : Nat → List Int
  cur : Nat → Nat × Nat
def blCells (x : Bl) : Array Value := #[.int .i64 (x.size : Nat), .int .i64 (x.asked : Nat), .int .i64 (x.state : Nat)]
def arCells (n g q l b : Nat) (v : Nat → Value) : Array Value :=
  #[.slice (some ⟨g, 0, none⟩) (n * 64) (n * 64), .pointer (some ⟨q, 0, none⟩), .pointer (some ⟨l, 0, none⟩), .map (some b), v 0, v 1, v 2, v 3, v 4, .int .i64 0]
structure Arena (o : Own) (w : World) (r p : Nat) (S : ArS) (g q l b : Nat) (v : Nat → Value) (f : Int → Option Nat) : Prop where
  blk : Blk o w r p (.cells (arCells S.n g q l b v) 121 (0, 0))
  gown : o g = r + 1
  ws : WordsB w g (S.n * 64) S.m
  mlt : ∀ i, S.m i < 2 ^ 64
  map : MapBlk o w (r + 2) b (fun k => (f k).map fun a => .pointer (some ⟨a, 0, none⟩))
  bnone : ∀ k, f k = none → S.bl k = none
  bsome : ∀ k a, f k = some a → ∃ x, S.bl k = some x ∧ Blk o w (r + 3) a (.cells (blCells x) 169 (0, 0))
  inj : ∀ k k' a, f k = some a → f k' = some a → k = k'
  row : ∀ c, c < 5 → Row w (v c) (S.rows c)
  rown : ∀ c, c < 5 → ∀ h, (v c).ownBlock = some h → o h = r + 4 + c
  pages : PagesRep o w (r + 9) q S.n S.pg S.R
  line : LineRep o w (r + 13) l
  n1 : 1 ≤ S.n ∧ S.n ≤ 4096
def ArenaRep (o : Own) (w : World) (r p : Nat) (S : ArS) : Prop := ∃ g q l b v f, Arena o w r p S g q l b v f
theorem Arena.keep {lo hi : Nat} {o o' : Own} {w w' : World} {r p : Nat} {S : ArS} {g q l b : Nat} {v : Nat → Value} {f : Int → Option Nat} (h : Arena o w r p S g q l b v f) (k : Fr lo hi o o' w w') (hr : r + 15 ≤ lo ∨ hi ≤ r) : Arena o' w' r p S g q l b v f :=
  ⟨h.blk.keep k (by omega), (k.own g h.ws.lt).trans h.gown, h.ws.of_eq (k.block g h.ws.lt (by rw [h.gown]; omega)), h.mlt, h.map.keep k (by omega), h.bnone,
    fun x a hx => let ⟨y, h1, h2⟩ := h.bsome x a hx; ⟨y, h1, h2.keep k (by omega)⟩, h.inj,
    fun c hc => ((h.row c hc).keepA (h.rown c hc) k (by omega)).1, fun c hc => ((h.row c hc).keepA (h.rown c hc) k (by omega)).2,
    h.pages.keep k (by omega), h.line.keep k (by omega), h.n1⟩
theorem ArenaRep.keep {lo hi : Nat} {o o' : Own} {w w' : World} {r p : Nat} {S : ArS} (h : ArenaRep o w r p S) (k : Fr lo hi o o' w w') (hr : r + 15 ≤ lo ∨ hi ≤ r) : ArenaRep o' w' r p S :=
  let ⟨g, q, l, b, v, f, s⟩ := h; ⟨g, q, l, b, v, f, s.keep k hr⟩
theorem ArenaRep.drewN {o : Own} {w : World} {r p : Nat} {S : ArS} (h : ArenaRep o w r p S) (ho : Owned o w) (k : Nat) : ArenaRep o (w.drewN k) r p S :=
  h.keep ((Fr.refl (lo := 0) (hi := 0) ho).drewN k) (.inr (Nat.zero_le _))
theorem Arena.c0 {o : Own} {w : World} {r p : Nat} {S : ArS} {g q l b : Nat} {v : Nat → Value} {f : Int → Option Nat} (h : Arena o w r p S g q l b v f) : w.cell? ⟨p, 0, none⟩ = some (.slice (some ⟨g, 0, none⟩) (S.n * 64) (S.n * 64)) := h.blk.cell 0
theorem Arena.c1 {o : Own} {w : World} {r p : Nat} {S : ArS} {g q l b : Nat} {v : Nat → Value} {f : Int → Option Nat} (h : Arena o w r p S g q l b v f) : w.cell? ⟨p, 1, none⟩ = some (.pointer (some ⟨q, 0, none⟩)) := h.blk.cell 1
theorem Arena.c2 {o : Own} {w : World} {r p : Nat} {S : ArS} {g q l b : Nat} {v : Nat → Value} {f : Int → Option Nat} (h : Arena o w r p S g q l b v f) : w.cell? ⟨p, 2, none⟩ = some (.pointer (some ⟨l, 0, none⟩)) := h.blk.cell 2
theorem Arena.c3 {o : Own} {w : World} {r p : Nat} {S : ArS} {g q l b : Nat} {v : Nat → Value} {f : Int → Option Nat} (h : Arena o w r p S g q l b v f) : w.cell? ⟨p, 3, none⟩ = some (.map (some b)) := h.blk.cell 3
theorem Arena.fp {o : Own} {w : World} {r p : Nat} {S : ArS} {g q l b : Nat} {v : Nat → Value} {f : Int → Option Nat} (h : Arena o w r p S g q l b v f) (i : Nat) : w.frozen? ⟨p, i, none⟩ = false := h.blk.free i
theorem Arena.cw {o : Own} {w : World} {r p : Nat} {S : ArS} {g q l b : Nat} {v : Nat → Value} {f : Int → Option Nat} (h : Arena o w r p S g q l b v f) {i : Nat} (hi : i < S.n * 64) : w.cell? ⟨g, i, none⟩ = some (.int .u64 (S.m i : Nat)) := h.ws.cell hi

/-! ### has, Read, Write -/
theorem ahas_yes {o : Own} {r p : Nat} {S : ArS} (i : Int) (k : Nat) (w : World) (A : ArenaRep o w r p S) (e : i = k) (hk : k < S.n * 64) :
    Calls Tryz.prog 105 #[.pointer (some ⟨p, 0, none⟩), .int .i64 i] w fun e w' => e = .returned (.bool true) ∧ w = w' := by
  subst e
  obtain ⟨g, q, l, b, v, f, A⟩ := A
  have c0 := A.c0
  have h0 : (0 : Int) ≤ (k : Int) := by omega
  have h1 : (k : Int) < ((S.n * 64 : Nat) : Int) := by omega
  clear A
  generalize S.n * 64 = N at *
  go_enter Tryz.func105, Tryz.ntmps105
  go_wp2
  go_ret
  exact ⟨rfl, rfl⟩
theorem ahas_no {o : Own} {r p : Nat} {S : ArS} (i : Int) (w : World) (A : ArenaRep o w r p S) (hk : i < 0 ∨ (S.n * 64 : Nat) ≤ i) :
    Calls Tryz.prog 105 #[.pointer (some ⟨p, 0, none⟩), .int .i64 i] w fun e w' => e = .returned (.bool false) ∧ w = w' := by
  obtain ⟨g, q, l, b, v, f, A⟩ := A
  have c0 := A.c0
  clear A
  generalize S.n * 64 = N at *
  rcases hk with hk | hk
  · have h0 : decide ((0 : Int) ≤ i) = false := by simp; omega
    go_enter Tryz.func105, Tryz.ntmps105
    go_wp2
    go_ret
    exact ⟨rfl, rfl⟩
  · have h0 : (0 : Int) ≤ i := by omega
    have h1 : ¬ i < (N : Int) := by omega
    go_enter Tryz.func105, Tryz.ntmps105
    go_wp2
    go_ret
    exact ⟨ret_bool (by first | rfl | (simp; omega)), rfl⟩
theorem aread_any {o : Own} {r p : Nat} {S : ArS} (i : Int) (k : Nat) (w : World) (A : ArenaRep o w r p S) (e : i = k) (hk : k < S.n * 64) :
    Calls Tryz.prog 52 #[.pointer (some ⟨p, 0, none⟩), .int .i64 i] w fun e w' => e = .returned (.tuple #[.int .u64 (S.m k : Nat), .int .i64 0]) ∧ w = w' := by
  subst e
  have HH := Lib.hid (ahas_yes (k : Int) k w A rfl hk)
  obtain ⟨g, q, l, b, v, f, A⟩ := A
  have c0 := A.c0
  have cw := A.cw hk
  have h1 : (k : Int) < ((S.n * 64 : Nat) : Int) := by omega
  clear A
  generalize S.m k = x at *
  generalize S.n * 64 = N at *
  go_enter Tryz.func52, Tryz.ntmps52
  go_wp2_with (go_at_call 105; refine HH.out.mono ?_; rintro e w1 ⟨rfl, rfl⟩)
  go_ret2
  exact ⟨rfl, rfl⟩
def setW (S : ArS) (k x : Nat) : ArS := { S with m := updN S.m k x }
theorem Arena.write {o : Own} {w : World} {r p : Nat} {S : ArS} {g q l b : Nat} {v : Nat → Value} {f : Int → Option Nat} (A : Arena o w r p S g q l b v f) (ho : Owned o w) (k x : Nat) (hx : x < 2 ^ 64) :
    Fr r (r + 15) o o w (w.setCell ⟨g, k, none⟩ (.int .u64 (x : Nat))) ∧ Arena o (w.setCell ⟨g, k, none⟩ (.int .u64 (x : Nat))) r p (setW S k x) g q l b v f := by
  have F : ∀ lo hi, lo ≤ r + 1 → r + 2 ≤ hi → Fr lo hi o o w (w.setCell ⟨g, k, none⟩ (.int .u64 (x : Nat))) := fun lo hi h1 h2 => (Fr.refl ho).setCell _ _ (.inl ⟨by simp only [A.gown]; omega, by simp only [A.gown]; omega⟩)
  have K := F (r + 1) (r + 2) (by omega) (by omega)
  refine ⟨F r (r + 15) (by omega) (by omega), A.blk.keep K (by omega), A.gown, A.ws.set k x, fun i => ?_, A.map.keep K (by omega), A.bnone, fun y a hy => let ⟨z, h1, h2⟩ := A.bsome y a hy; ⟨z, h1, h2.keep K (by omega)⟩, A.inj,
    fun c hc => ((A.row c hc).keepA (A.rown c hc) K (by omega)).1, fun c hc => ((A.row c hc).keepA (A.rown c hc) K (by omega)).2, A.pages.keep K (by omega), A.line.keep K (by omega), A.n1⟩
  show updN S.m k x i < 2 ^ 64
  unfold updN
  split
  · exact hx
  · exact A.mlt i
/-- Behind a call on the arena that gives a number back. -/
def ArPost (o : Own) (w : World) (r p : Nat) (S : ArS) (v : Value) (e : Ending) (w' : World) : Prop :=
  e = .returned v ∧ ∃ o', Fr r (r + 15) o o' w w' ∧ ArenaRep o' w' r p S
theorem awrite_any {o : Own} {r p : Nat} {S : ArS} (i : Int) (k x : Nat) (w : World) (ho : Owned o w) (A : ArenaRep o w r p S) (e : i = k) (hk : k < S.n * 64) (hx : x < 2 ^ 64) :
    Calls Tryz.prog 53 #[.pointer (some ⟨p, 0, none⟩), .int .i64 i, .int .u64 (x : Nat)] w (ArPost o w r p (setW S k x) (.int .i64 0)) := by
  subst e
  have HH := Lib.hid (ahas_yes (k : Int) k w A rfl hk)
  obtain ⟨g, q, l, b, v, f, A⟩ := A
  have c0 := A.c0
  have cw := A.cw hk
  have fw := A.ws.free k
  have h1 : (k : Int) < ((S.n * 64 : Nat) : Int) := by omega
  have HW := Lib.hid (A.write ho k x hx)
  clear A
  generalize S.m k = y at *
  generalize S.n * 64 = N at *
  go_enter Tryz.func53, Tryz.ntmps53
  go_wp2_with (go_at_call 105; refine HH.out.mono ?_; rintro e w1 ⟨rfl, rfl⟩)
  go_ret
  exact ⟨rfl, o, HW.out.1, _, _, _, _, _, _, HW.out.2⟩

/-! ### used, Size -/
theorem zero_pblock (w : World) : (zeroValue 167).run Tryz.prog w = .ok (.pointer none) w := by kernel_rfl
theorem Arena.look {o : Own} {w : World} {r p : Nat} {S : ArS} {g q l b : Nat} {v : Nat → Value} {f : Int → Option Nat} (A : Arena o w r p S g q l b v f) (k : Int) (c : Bool) :
    (Instr.lookup 117 (.map (some b)) (.int .i64 k) c).run Tryz.prog w = .ok (if c then .tuple #[((f k).map fun a => Value.pointer (some ⟨a, 0, none⟩)).getD (.pointer none), .bool ((f k).map fun a => Value.pointer (some ⟨a, 0, none⟩)).isSome] else ((f k).map fun a => Value.pointer (some ⟨a, 0, none⟩)).getD (.pointer none)) w :=
  MapIs.lookup A.map.2 Tryz.underlying117 Tryz.underlying3 zero_pblock c k
theorem Arena.f_of {o : Own} {w : World} {r p : Nat} {S : ArS} {g q l b : Nat} {v : Nat → Value} {f : Int → Option Nat} (A : Arena o w r p S g q l b v f) {k : Int} {x : Bl} (h : S.bl k = some x) : ∃ a, f k = some a ∧ Blk o w (r + 3) a (.cells (blCells x) 169 (0, 0)) := by
  cases hf : f k with
  | none => rw [A.bnone k hf] at h; cases h
  | some a =>
    obtain ⟨y, h1, h2⟩ := A.bsome k a hf
    rw [h] at h1; cases h1
    exact ⟨a, rfl, h2⟩
theorem used_yes {o : Own} {r p : Nat} {S : ArS} {g q l b : Nat} {v : Nat → Value} {f : Int → Option Nat} (k : Int) (a : Nat) (x : Bl) (w : World) (A : Arena o w r p S g q l b v f) (hf : f k = some a) (hx : S.bl k = some x) (hs : x.state = 1) :
    Calls Tryz.prog 164 #[.pointer (some ⟨p, 0, none⟩), .int .i64 k] w fun e w' => e = .returned (.tuple #[.pointer (some ⟨a, 0, none⟩), .bool true]) ∧ ∃ n, w' = w.drewN n := by
  have hl := A.look k true
  rw [hf] at hl
  simp only [Option.map_some, Option.getD_some, Option.isSome_some, if_true] at hl
  obtain ⟨a', ha', B⟩ := A.f_of hx
  have hB := B
  rw [hf] at ha'
  obtain rfl : a = a' := by simpa using ha'
  have c3 := A.c3
  have d2 := B.cell 2
  unfold blCells at d2
  rw [hs] at d2
  simp only [List.getElem?_toArray, List.getElem?_cons_zero, List.getElem?_cons_succ] at d2
  clear A ha' hf hx hs B hB
  go_enter Tryz.func164, Tryz.ntmps164
  go_wp2
  go_quiet (fail)
  go_wp2
  go_ret2
  exact ⟨rfl, nq, rfl⟩
theorem asize_yes {o : Own} {r p : Nat} {S : ArS} (k : Int) (x : Bl) (w : World) (A : ArenaRep o w r p S) (hx : S.bl k = some x) (hs : x.state = 1) :
    Calls Tryz.prog 106 #[.pointer (some ⟨p, 0, none⟩), .int .i64 k] w fun e w' => e = .returned (.tuple #[.int .i64 (x.asked : Nat), .int .i64 0]) ∧ ∃ n, w' = w.drewN n := by
  obtain ⟨g, q, l, b, v, f, A⟩ := A
  obtain ⟨a, hf, B⟩ := A.f_of hx
  have HU := Lib.hid (used_yes k a x w A hf hx hs)
  have d1 := B.cell 1
  unfold blCells at d1
  simp only [List.getElem?_toArray, List.getElem?_cons_zero, List.getElem?_cons_succ] at d1
  clear A hf hx hs B
  go_enter Tryz.func106, Tryz.ntmps106
  go_wp2_with (go_at_call 164; refine HU.out.mono ?_; rintro e w1 ⟨rfl, n, rfl⟩)
  go_ret2
  exact ⟨rfl, n, rfl⟩
end Go.Proofs.YtlpklloagaccoaaGreat
namespace Go.Proofs.YtlpklloagaccoaaGreat
open Go.RowKit
set_option linter.unusedVariables false

def updF {α : Type} (f : Nat → α) (k : Nat) (v : α) : Nat → α := fun i => if i = k then v else f i
def updI {α : Type} (f : Int → α) (k : Int) (v : α) : Int → α := fun i => if i = k then v else f i
theorem updF_twice {α : Type} (f : Nat → α) (k : Nat) (a b : α) : updF (updF f k a) k b = updF f k b := by
  funext i; unfold updF; split <;> rfl
theorem mem_seqL {k : Int} {base size n : Nat} : k ∈ seqL base size n ↔ ∃ j, j < n ∧ k = ((base + j * size : Nat) : Int) := by
  simp [seqL, seq0]
  constructor
  · rintro ⟨j, hj, rfl⟩; exact ⟨j, hj, rfl⟩
  · rintro ⟨j, hj, rfl⟩; exact ⟨j, hj, rfl⟩
/-- Blocks that are new. -/
def pageBl (bl : Int → Option Bl) (base size n : Nat) : Int → Option Bl := fun k => if k ∈ seqL base size n then some ⟨size, 0, 0⟩ else bl k
theorem pageBl_zero (bl : Int → Option Bl) (base size : Nat) : pageBl bl base size 0 = bl := by
  funext k; unfold pageBl; rw [if_neg (by rw [mem_seqL]; rintro ⟨j, hj, _⟩; omega)]
theorem pageBl_succ (bl : Int → Option Bl) (base size n : Nat) : pageBl bl base size (n + 1) = updI (pageBl bl base size n) ((base + n * size : Nat) : Int) (some ⟨size, 0, 0⟩) := by
  funext k
  unfold pageBl updI
  rw [seqL_succ]
  by_cases h : k = ((base + n * size : Nat) : Int)
  · rw [if_pos h, if_pos (by simp [h])]
  · rw [if_neg h]
    by_cases h2 : k ∈ seqL base size n
    · rw [if_pos (by simp [h2])]; exact (if_pos h2).symm
    · rw [if_neg (by simp [h2]; intro e; exact h (by rw [e]; simp))]; exact (if_neg h2).symm

/-- One of a class goes out of its row. -/
def firstS (S : ArS) (c : Nat) : ArS := { S with rows := updF S.rows c (popL (S.rows c)), cur := updF S.cur c ((S.cur c).1, (S.cur c).2 + 1) }
/-- A page of a class. -/
def pageS (S : ArS) (c : Nat) : ArS :=
  { S with t := S.t + 1, pg := fun i => decide (i < S.t + 1), R := takeR S.R S.t 1 (c + 1) 1, bl := pageBl S.bl (S.t * 64) (lenN c) (perN c), rows := updF S.rows c (seqL (S.t * 64) (lenN c) (perN c)), cur := updF S.cur c (S.t, 0) }
/-- Pages for a large block. -/
def greatS (S : ArS) (k : Nat) : ArS :=
  { S with t := S.t + k, pg := fun i => decide (i < S.t + k), R := takeR S.R S.t k 6 k, bl := updI S.bl ((S.t * 64 : Nat) : Int) (some ⟨64 * k, 0, 0⟩) }
/-- A block is in use. -/
def finM (m : Nat → Nat) (at_ n size : Nat) : Nat → Nat := fun i => if at_ ≤ i ∧ i < at_ + n then 0 else if at_ + n ≤ i ∧ i < at_ + size then canW i else m i
def finS (S : ArS) (at_ n size : Nat) : ArS := { S with m := finM S.m at_ n size, bl := updI S.bl (at_ : Int) (some ⟨size, n, 1⟩) }
/-- Behind the taking of a block, and which. -/
def tookS (S : ArS) (n : Nat) : Option (ArS × Nat) :=
  if classN n = 5 then (if S.t + (n / 64 + 1) ≤ S.n then some (greatS S (n / 64 + 1), S.t * 64) else none)
  else if (S.cur (classN n)).2 < perN (classN n) then some (firstS S (classN n), (S.cur (classN n)).1 * 64 + (S.cur (classN n)).2 * lenN (classN n))
  else if S.t + 1 ≤ S.n then some (firstS (pageS S (classN n)) (classN n), S.t * 64) else none
def allocS (S : ArS) (n : Nat) : Option (ArS × Nat) := (tookS S n).map fun x => (finS x.1 x.2 n (sizeN n), x.2)

/-- Blocks lie apart. -/
structure ArOk (S : ArS) : Prop where
  tn : S.t ≤ S.n
  nat : ∀ k x, S.bl k = some x → ∃ a : Nat, k = (a : Int) ∧ 64 ≤ a ∧ a + x.size ≤ S.t * 64 ∧ x.asked ≤ x.size ∧ 2 ≤ x.size
  disj : ∀ k k' x x', S.bl k = some x → S.bl k' = some x' → k < k' → k + (x.size : Int) ≤ k'
/-- Nothing was freed. -/
structure Fresh (S : ArS) : Prop where
  ok : ArOk S
  pg : S.pg = fun i => decide (i < S.t)
  t1 : 1 ≤ S.t
  cj : ∀ c, c < 5 → (S.cur c).2 ≤ perN c
  rows : ∀ c, c < 5 → S.rows c = rowAt c (S.cur c).1 (S.cur c).2
  free : ∀ c, c < 5 → ∀ i, (S.cur c).2 ≤ i → i < perN c → S.bl (((S.cur c).1 * 64 + i * lenN c : Nat) : Int) = some ⟨lenN c, 0, 0⟩
theorem mul_step {i j s : Nat} (h : i < j) : i * s + s ≤ j * s := by
  have := Nat.mul_le_mul_right s (show i + 1 ≤ j from h)
  rw [Nat.succ_mul] at this; exact this
theorem ArOk.first {S : ArS} (h : ArOk S) (c : Nat) : ArOk (firstS S c) := ⟨h.tn, h.nat, h.disj⟩
theorem Fresh.first {S : ArS} (h : Fresh S) {c : Nat} (hc : c < 5) (hj : (S.cur c).2 < perN c) : Fresh (firstS S c) := by
  refine ⟨h.ok.first c, h.pg, h.t1, fun d hd => ?_, fun d hd => ?_, fun d hd i h1 h2 => ?_⟩
  · show (updF S.cur c _ d).2 ≤ _
    unfold updF
    split
    · rename_i e; subst e; exact hj
    · exact h.cj d hd
  · show updF S.rows c _ d = rowAt d (updF S.cur c _ d).1 (updF S.cur c _ d).2
    unfold updF
    split
    · rename_i e; subst e
      rw [h.rows d hd]; rfl
    · exact h.rows d hd
  · revert h1
    show (updF S.cur c _ d).2 ≤ i → S.bl (((updF S.cur c _ d).1 * 64 + i * lenN d : Nat) : Int) = _
    unfold updF
    split
    · rename_i e; subst e
      intro h1
      exact h.free d hd i (by simp at h1; omega) h2
    · intro h1; exact h.free d hd i h1 h2
theorem ArOk.page {S : ArS} (h : ArOk S) {c : Nat} (hc : c < 5) (t1 : 1 ≤ S.t) (hn : S.t + 1 ≤ S.n) : ArOk (pageS S c) := by
  have hl := per_len hc
  have hin : ∀ j, j < perN c → S.t * 64 + j * lenN c + lenN c ≤ S.t * 64 + 64 := fun j hj => by have := mul_step (s := lenN c) hj; omega
  refine ⟨hn, fun k x hk => ?_, fun k k' x x' hk hk' hlt => ?_⟩
  · revert hk
    show pageBl S.bl _ _ _ k = some x → ∃ a : Nat, k = (a : Int) ∧ 64 ≤ a ∧ a + x.size ≤ (S.t + 1) * 64 ∧ _
    unfold pageBl
    split
    · rename_i hm
      obtain ⟨j, hj, rfl⟩ := mem_seqL.1 hm
      intro e; cases e
      have := hin j hj
      exact ⟨_, rfl, by omega, by show _ + lenN c ≤ _; omega, Nat.zero_le _, hl.2.2.2.1⟩
    · intro e
      obtain ⟨a, h1, h2, h3, h4⟩ := h.nat k x e
      exact ⟨a, h1, h2, by omega, h4⟩
  · revert hk hk'
    show pageBl S.bl _ _ _ k = some x → pageBl S.bl _ _ _ k' = some x' → _
    unfold pageBl
    split
    · rename_i hm
      obtain ⟨j, hj, rfl⟩ := mem_seqL.1 hm
      intro e; cases e
      split
      · rename_i hm'
        obtain ⟨j', hj', rfl⟩ := mem_seqL.1 hm'
        intro e; cases e
        have h3 : j < j' := by
          rcases Nat.lt_or_ge j j' with h3 | h3
          · exact h3
          · have := Nat.mul_le_mul_right (lenN c) h3; omega
        have := mul_step (s := lenN c) h3
        show _ + ((lenN c : Nat) : Int) ≤ _
        omega
      · intro e
        obtain ⟨a, h1, h2, h3, h4⟩ := h.nat k' x' e
        omega
    · intro e
      obtain ⟨a, h1, h2, h3, h4⟩ := h.nat k x e
      split
      · rename_i hm'
        obtain ⟨j', hj', rfl⟩ := mem_seqL.1 hm'
        intro e'
        omega
      · intro e'; exact h.disj k k' x x' e e' hlt
theorem Fresh.page {S : ArS} (h : Fresh S) {c : Nat} (hc : c < 5) (hn : S.t + 1 ≤ S.n) : Fresh (pageS S c) := by
  have hl := per_len hc
  refine ⟨h.ok.page hc h.t1 hn, rfl, by show 1 ≤ S.t + 1; omega, fun d hd => ?_, fun d hd => ?_, fun d hd i h1 h2 => ?_⟩
  · show (updF S.cur c _ d).2 ≤ _
    unfold updF
    split
    · exact Nat.zero_le _
    · exact h.cj d hd
  · show updF S.rows c _ d = rowAt d (updF S.cur c _ d).1 (updF S.cur c _ d).2
    unfold updF
    split
    · rename_i e; subst e; rfl
    · exact h.rows d hd
  · revert h1
    show (updF S.cur c _ d).2 ≤ i → pageBl S.bl _ _ _ (((updF S.cur c _ d).1 * 64 + i * lenN d : Nat) : Int) = _
    unfold updF
    split
    · rename_i e; subst e
      intro _
      unfold pageBl
      rw [if_pos (mem_seqL.2 ⟨i, h2, rfl⟩)]
    · intro h1
      have hf := h.free d hd i h1 h2
      unfold pageBl
      rw [if_neg ?_]
      · exact hf
      · intro hm
        obtain ⟨j, hj, e⟩ := mem_seqL.1 hm
        obtain ⟨a, e1, e2, e3, e4⟩ := h.ok.nat _ _ hf
        omega
theorem ArOk.great {S : ArS} (h : ArOk S) {k : Nat} (t1 : 1 ≤ S.t) (k1 : 1 ≤ k) (hn : S.t + k ≤ S.n) : ArOk (greatS S k) := by
  refine ⟨hn, fun a x hk => ?_, fun a a' x x' hk hk' hlt => ?_⟩
  · revert hk
    show updI S.bl _ _ a = some x → ∃ b : Nat, a = (b : Int) ∧ 64 ≤ b ∧ b + x.size ≤ (S.t + k) * 64 ∧ _
    unfold updI
    split
    · rename_i e; subst e
      intro e; cases e
      exact ⟨_, rfl, by omega, by show _ + 64 * k ≤ _; omega, Nat.zero_le _, by show 2 ≤ 64 * k; omega⟩
    · intro e
      obtain ⟨b, h1, h2, h3, h4⟩ := h.nat a x e
      exact ⟨b, h1, h2, by omega, h4⟩
  · revert hk hk'
    show updI S.bl _ _ a = some x → updI S.bl _ _ a' = some x' → _
    unfold updI
    split
    · rename_i e; subst e
      intro e; cases e
      split
      · omega
      · intro e
        obtain ⟨b, h1, h2, h3, h4⟩ := h.nat a' x' e
        omega
    · intro e
      obtain ⟨b, h1, h2, h3, h4⟩ := h.nat a x e
      split
      · rename_i e'; subst e'
        intro _; omega
      · intro e'; exact h.disj a a' x x' e e' hlt
theorem Fresh.great {S : ArS} (h : Fresh S) {k : Nat} (k1 : 1 ≤ k) (hn : S.t + k ≤ S.n) : Fresh (greatS S k) := by
  refine ⟨h.ok.great h.t1 k1 hn, rfl, by show 1 ≤ S.t + k; have := h.t1; omega, h.cj, h.rows, fun d hd i h1 h2 => ?_⟩
  have hf := h.free d hd i h1 h2
  show updI S.bl _ _ _ = _
  unfold updI
  rw [if_neg ?_]
  · exact hf
  · intro e
    obtain ⟨a, e1, e2, e3, e4⟩ := h.ok.nat _ _ hf
    have e5 : ((S.cur d).1 * 64 + i * lenN d) = a := by exact Int.ofNat.inj e1
    have e6 : ((S.cur d).1 * 64 + i * lenN d) = S.t * 64 := by exact Int.ofNat.inj e
    omega
/-- In no row that is left. -/
def Gone (S : ArS) (a : Nat) : Prop := ∀ c, c < 5 → ∀ i, (S.cur c).2 ≤ i → i < perN c → (S.cur c).1 * 64 + i * lenN c ≠ a
theorem ArOk.fin {S : ArS} (h : ArOk S) {a n : Nat} {x : Bl} (hb : S.bl (a : Int) = some x) (hn : n ≤ x.size) : ArOk (finS S a n x.size) := by
  refine ⟨h.tn, fun k y hk => ?_, fun k k' y y' hk hk' hlt => ?_⟩
  · revert hk
    show updI S.bl _ _ k = some y → ∃ b : Nat, k = (b : Int) ∧ 64 ≤ b ∧ b + y.size ≤ S.t * 64 ∧ _
    unfold updI
    split
    · rename_i e; subst e
      intro e; cases e
      obtain ⟨b, h1, h2, h3, h4, h5⟩ := h.nat _ _ hb
      exact ⟨b, h1, h2, h3, hn, h5⟩
    · exact h.nat k y
  · revert hk hk'
    show updI S.bl _ _ k = some y → updI S.bl _ _ k' = some y' → _
    unfold updI
    split
    · rename_i e; subst e
      intro e; cases e
      split
      · omega
      · intro e; exact h.disj _ _ x _ hb e hlt
    · intro e
      split
      · rename_i e'; subst e'
        intro _; exact h.disj _ _ _ x e hb hlt
      · intro e'; exact h.disj _ _ _ _ e e' hlt
theorem Fresh.fin {S : ArS} (h : Fresh S) {a n : Nat} {x : Bl} (hb : S.bl (a : Int) = some x) (hn : n ≤ x.size) (hg : Gone S a) : Fresh (finS S a n x.size) := by
  refine ⟨h.ok.fin hb hn, h.pg, h.t1, h.cj, h.rows, fun d hd i h1 h2 => ?_⟩
  have hf := h.free d hd i h1 h2
  show updI S.bl _ _ _ = _
  unfold updI
  rw [if_neg ?_]
  · exact hf
  · intro e
    exact hg d hd i h1 h2 (Int.ofNat.inj e)
/-- Distinct blocks of two rows. -/
theorem Fresh.gone_first {S : ArS} (h : Fresh S) {c : Nat} (hc : c < 5) (hj : (S.cur c).2 < perN c) : Gone (firstS S c) ((S.cur c).1 * 64 + (S.cur c).2 * lenN c) := by
  intro d hd i
  show (updF S.cur c _ d).2 ≤ i → _ → (updF S.cur c _ d).1 * 64 + i * lenN d ≠ _
  unfold updF
  split
  · rename_i e; subst e
    intro h1 h2 e
    have h1' : (S.cur d).2 + 1 ≤ i := h1
    have := mul_step (s := lenN d) (show (S.cur d).2 < i from h1')
    have := (per_len hd).2.2.2.1
    simp only at e
    omega
  · rename_i hne
    intro h1 h2 e
    have f1 := h.free c hc _ (Nat.le_refl _) hj
    have f2 := h.free d hd i h1 h2
    rw [e, f1] at f2
    simp only [Option.some.injEq, Bl.mk.injEq, and_true] at f2
    have H : ∀ c, c < 5 → ∀ d, d < 5 → lenN c = lenN d → c = d := by decide
    exact hne (H c hc d hd f2).symm
theorem Fresh.gone_great {S : ArS} (h : Fresh S) (k : Nat) : Gone (greatS S k) (S.t * 64) := by
  intro d hd i h1 h2 e
  have hf := h.free d hd i h1 h2
  obtain ⟨a, e1, e2, e3, e4⟩ := h.ok.nat _ _ hf
  have e5 : ((S.cur d).1 * 64 + i * lenN d) = a := Int.ofNat.inj e1
  have e' : ((S.cur d).1 * 64 + i * lenN d) = S.t * 64 := e
  have e6 := e4.2
  omega
/-- Whatever is free stands in its row once, and is not in use. -/
structure RowsOk (S : ArS) : Prop where
  nd : ∀ c, c < 5 → (S.rows c).Nodup
  free : ∀ c, c < 5 → ∀ k ∈ S.rows c, ∃ x, S.bl k = some x ∧ (x.state = 0 ∨ x.state = 3)
theorem popN_seq0 {c : Nat} (h : c < 5) {j : Nat} (hj : j ≤ perN c) : (popN j (seq0 (perN c))).Nodup ∧ ∀ x ∈ popN j (seq0 (perN c)), (j : Int) ≤ x ∧ x < (perN c : Nat) := by
  have H : ∀ c, c < 5 → ∀ j, j < perN c + 1 → (popN j (seq0 (perN c))).Nodup ∧ ∀ x ∈ popN j (seq0 (perN c)), (j : Int) ≤ x ∧ x < (perN c : Nat) := by decide +kernel
  exact H c h j (by omega)
theorem rowAt_spec {c : Nat} (h : c < 5) (pg : Nat) {j : Nat} (hj : j ≤ perN c) : (rowAt c pg j).Nodup ∧ ∀ x ∈ rowAt c pg j, ∃ i : Nat, j ≤ i ∧ i < perN c ∧ x = ((pg * 64 + i * lenN c : Nat) : Int) := by
  have hl := per_len h
  have hf : ∀ a b : Int, ((pg * 64 : Nat) : Int) + a * (lenN c : Nat) < ((pg * 64 : Nat) : Int) + b * (lenN c : Nat) ↔ a < b := fun a b => by
    constructor
    · intro h
      have h2 : a * (lenN c : Nat) < b * (lenN c : Nat) := by omega
      exact Int.lt_of_mul_lt_mul_right h2 (by omega)
    · intro h
      have := Int.mul_lt_mul_of_pos_right h (show (0 : Int) < (lenN c : Nat) by omega)
      omega
  obtain ⟨h1, h2⟩ := popN_seq0 h hj
  unfold rowAt seqL
  rw [popN_map hf]
  refine ⟨?_, fun x hx => ?_⟩
  · refine List.pairwise_map.2 (h1.imp fun {a b} hne e => hne ?_)
    rcases Int.lt_trichotomy a b with h | h | h
    · have := (hf a b).2 h; omega
    · exact h
    · have := (hf b a).2 h; omega
  · obtain ⟨y, hy, rfl⟩ := List.mem_map.1 hx
    obtain ⟨h3, h4⟩ := h2 y hy
    obtain ⟨i, rfl⟩ := Int.eq_ofNat_of_zero_le (show 0 ≤ y by omega)
    exact ⟨i, by omega, by omega, by simp⟩
theorem Fresh.rowsOk {S : ArS} (h : Fresh S) : RowsOk S := by
  refine ⟨fun c hc => ?_, fun c hc k hk => ?_⟩
  · rw [h.rows c hc]; exact (rowAt_spec hc _ (h.cj c hc)).1
  · rw [h.rows c hc] at hk
    obtain ⟨i, h1, h2, rfl⟩ := (rowAt_spec hc _ (h.cj c hc)).2 k hk
    exact ⟨_, h.free c hc i h1 h2, .inl rfl⟩
theorem RowsOk.m {S : ArS} (h : RowsOk S) (m : Nat → Nat) : RowsOk { S with m := m } := ⟨h.nd, h.free⟩
end Go.Proofs.YtlpklloagaccoaaGreat
