/- What drains do to a row of objects of which each refers to the next one, and to what several refer to. Plain Lean. No condition. What trial deletion does, step by step: what can be reached, what is held, told, and goes. Plain Lean. No condition. A trial's outcome where it is known which objects nobody holds. Plain Lean. No condition. Where the blocks of one class lie that are given out one behind the other by a new arena. No condition. Objects made one behind the other, and cells set to refer to them: what is known of the engine. Plain Lean. No condition. Calls that make objects one behind the other, and set cells to refer to them. Conditions: room; no count near the limit. -/
import Derived.Test.YtlpklloagaccoaaGreatGdA
import Derived.Test.YtlpklloagaccoaaGreatAll
import Derived.Test.YtlpklloagaccoaaGreatZeros
import Derived.Test.YtlpklloagaccoaaGreatSpaceW
import Derived.Test.YtlpklloagaccoaaGreatRoom
import Derived.Test.YtlpklloagaccoaaGreatTells
namespace Go.Proofs.YtlpklloagaccoaaGreat
open Go.RowKit
set_option linter.unusedVariables false

theorem tw_at : ∀ (l : List Int) (j : Nat), l.Nodup → j < l.length → l.takeWhile (fun a => !decide (a ∈ [l.getD j 0])) = l.take j ∧ l.dropWhile (fun a => !decide (a ∈ [l.getD j 0])) = l.drop j
  | [], j, _, h => absurd h (Nat.not_lt_zero _)
  | a :: m, 0, _, _ => by simp
  | a :: m, j + 1, nd, h => by
    have hj : j < m.length := by simpa using h
    obtain ⟨n1, n2⟩ := List.nodup_cons.1 nd
    have hm : m.getD j 0 ∈ m := by rw [show m.getD j 0 = m[j] from by simp [List.getD, hj]]; exact List.getElem_mem hj
    have hne : ¬ a = m.getD j 0 := fun e => n1 (by rw [e]; exact hm)
    obtain ⟨h1, h2⟩ := tw_at m j n2 hj
    have e0 : (a :: m).getD (j + 1) 0 = m.getD j 0 := rfl
    rw [e0]
    generalize m.getD j 0 = z at *
    have hp : (!decide (a ∈ [z])) = true := by simp [hne]
    rw [List.takeWhile_cons, List.dropWhile_cons, if_pos hp, if_pos hp, h1, h2]
    exact ⟨rfl, rfl⟩
theorem tw_all {l : List Int} {p : Int → Bool} (h : ∀ x ∈ l, p x = true) : l.takeWhile p = l ∧ l.dropWhile p = [] := by
  induction l with
  | nil => exact ⟨rfl, rfl⟩
  | cons a m ih =>
    obtain ⟨h1, h2⟩ := ih fun x hx => h x (by simp [hx])
    rw [List.takeWhile_cons, List.dropWhile_cons, if_pos (h a (by simp)), if_pos (h a (by simp)), h1, h2]
    exact ⟨rfl, rfl⟩
theorem same_len {xs ys : List Int} (h1 : xs.Nodup) (h2 : ys.Nodup) (h : ∀ k, k ∈ xs ↔ k ∈ ys) : xs.length = ys.length :=
  ((List.perm_ext_iff_of_nodup h1 h2).2 h).length_eq
theorem sorted_nodup {xs : List Int} (h : xs.Pairwise (· < ·)) : xs.Nodup := h.imp fun {a b} h e => by omega
/-- How many objects there are. -/
theorem Gd.all {S : EngS} {hs ks : List Int} (G : Gd S hs) (h : SetL (isOb S.ob) ks) : ks.length = hs.length :=
  same_len (sorted_nodup h.sorted) G.nodup fun k => by
    rw [h.mem k, G.mem k]
    unfold isOb
    exact Option.isSome_iff_exists
/-! ### a row of objects -/
def ChnR (S : EngS) : List Int → Prop
  | [] => True
  | a :: l => refsA S a = l.head?.toList ∧ ChnR S l
theorem ChnR.cnt {S : EngS} : ∀ {l : List Int}, ChnR S l → ∀ k, cntR S l k = l.tail.count k
  | [], _, k => rfl
  | a :: l, h, k => by
    show (refsA S a).count k + cntR S l k = l.count k
    rw [h.1, h.2.cnt k]
    cases l with
    | nil => rfl
    | cons b m =>
      show ([b] : List Int).count k + m.count k = (b :: m).count k
      rw [List.count_cons, List.count_cons]
      simp only [List.count_nil]
      omega
theorem ChnR.congr {S T : EngS} : ∀ {l : List Int}, (∀ y ∈ l, refsA T y = refsA S y) → ChnR S l → ChnR T l
  | [], _, _ => trivial
  | a :: l, e, h => ⟨(e a (by simp)).trans h.1, ChnR.congr (fun y hy => e y (by simp [hy])) h.2⟩
structure Chn (S : EngS) (l : List Int) : Prop where
  G : Gd S l
  row : ChnR S l
  wat : ∀ k, S.wat k = false
  pend : S.pend = []
  rng : ∀ k ∈ l, 0 ≤ k ∧ k < KB
  len : l.length ≤ 60
theorem Chn.zero {S : EngS} {l : List Int} (C : Chn S l) (k : Int) : S.Z k = true ↔ l.head? = some k := by
  rw [C.G.zero k]
  cases l with
  | nil => exact ⟨fun h => (by cases h.1), fun h => (by cases h)⟩
  | cons a m =>
    obtain ⟨n1, n2⟩ := List.nodup_cons.1 C.G.nodup
    have hc := fun h => C.G.cnt k h
    rw [C.row.cnt k] at hc
    simp only [List.tail_cons] at hc
    constructor
    · rintro ⟨h1, h2⟩
      rcases List.mem_cons.1 h1 with rfl | h3
      · rfl
      · have := hc h1
        have := List.count_pos_iff.2 h3
        omega
    · intro h
      simp only [List.head?_cons, Option.some.injEq] at h
      subst h
      refine ⟨by simp, ?_⟩
      rw [hc (by simp), List.count_eq_zero.2 n1]; rfl
theorem Chn.ob {S : EngS} {l : List Int} (C : Chn S l) {k : Int} (h : k ∈ l) : ∃ x, S.ob k = some x := (C.G.mem k).1 h
theorem Chn.weak {S : EngS} {l : List Int} (C : Chn S l) : S.weak = fun _ => false := funext C.G.weak
theorem Chn.refs {S : EngS} {a : Int} {l : List Int} (C : Chn S (a :: l)) : refsA S a = l.head?.toList := C.row.1
theorem Chn.rg {S : EngS} {a : Int} {l : List Int} (C : Chn S (a :: l)) : Rg S a := by
  unfold Rg
  rw [C.refs, C.pend]
  refine ⟨fun k hk => ?_, ?_, by simp⟩
  · cases l with
    | nil => cases hk
    | cons b m =>
      simp only [List.head?_cons, Option.toList_some, List.mem_singleton] at hk
      subst hk
      exact C.rng _ (by simp)
  · cases l with
    | nil => simp
    | cons b m => simp
theorem Chn.free {S : EngS} {a : Int} {l : List Int} (C : Chn S (a :: l)) : Chn (freeA S a) l := by
  obtain ⟨G', _, hr, _, _, _, hw, hp, _⟩ := C.G.free (h := a) (by simp)
  rw [List.erase_cons_head] at G'
  obtain ⟨n1, n2⟩ := List.nodup_cons.1 C.G.nodup
  refine ⟨G', C.row.2.congr fun y hy => hr y fun e => n1 (by rw [← e]; exact hy), fun k => ?_, by rw [hp, C.pend]; rfl, fun k hk => C.rng k (by simp [hk]), by have := C.len; simp at this; omega⟩
  rw [hw]
  unfold updS
  split
  · rfl
  · exact C.wat k
def fstK (kept : Int → Bool) : List Int → Option Int
  | [] => none
  | a :: _ => if kept a = true then none else some a
theorem fstK_iff {kept : Int → Bool} (l : List Int) (k : Int) : (l.head? = some k ∧ kept k = false) ↔ fstK kept l = some k := by
  cases l with
  | nil => exact ⟨fun h => (by cases h.1), fun h => (by cases h)⟩
  | cons a m =>
    have e0 : fstK kept (a :: m) = if kept a = true then none else some a := rfl
    rw [e0]
    cases hk : kept a with
    | true =>
      rw [if_pos rfl]
      refine ⟨fun h => ?_, fun h => (by cases h)⟩
      have h1 := h.1
      simp only [List.head?_cons, Option.some.injEq] at h1
      subst h1
      rw [hk] at h
      cases h.2
    | false =>
      rw [if_neg (by decide)]
      simp only [List.head?_cons, Option.some.injEq]
      exact ⟨fun h => h.1, fun h => ⟨h, by rw [← h]; exact hk⟩⟩
theorem Chn.dr {kept : Int → Bool} : ∀ {l : List Int} {S : EngS}, Chn S l → ∃ S', Dr S kept (fstK kept l) S' (l.takeWhile fun a => !kept a) [] (l.takeWhile fun a => !kept a).length ∧ Chn S' (l.dropWhile fun a => !kept a)
  | [], S, C => ⟨S, Dr.done S kept, C⟩
  | a :: l, S, C => by
    cases hk : kept a with
    | true =>
      have e : fstK kept (a :: l) = none := if_pos hk
      have h1 : ¬ (!kept a) = true := by rw [hk]; decide
      rw [e, List.takeWhile_cons, List.dropWhile_cons, if_neg h1, if_neg h1]
      exact ⟨S, Dr.done S kept, C⟩
    | false =>
      have e : fstK kept (a :: l) = some a := if_neg (by rw [hk]; decide)
      have h1 : (!kept a) = true := by rw [hk]; rfl
      rw [e, List.takeWhile_cons, List.dropWhile_cons, if_pos h1, if_pos h1]
      obtain ⟨S', D, C'⟩ := Chn.dr (kept := kept) C.free
      obtain ⟨x, hx⟩ := C.ob (k := a) (by simp)
      refine ⟨S', Dr.free (C.wat a) hx C.rg C.weak (fun k => ?_) D, C'⟩
      dsimp only
      rw [← fstK_iff, C.refs, C.free.zero k]
      constructor
      · exact fun h => ⟨h.2.1, h.2.2⟩
      · exact fun h => ⟨by rw [h.1]; simp, h.1, h.2⟩
/-- A drain with roots. -/
theorem Chn.drR {S : EngS} {l : List Int} (C : Chn S l) (roots : List Int) : ∃ S', DrR S roots S' (l.takeWhile fun a => !decide (a ∈ roots)) [] ∧ Chn S' (l.dropWhile fun a => !decide (a ∈ roots)) := by
  have ek : keptA S roots = fun a => decide (a ∈ roots) := by
    funext a
    unfold keptA
    rw [C.pend, List.append_nil]
  obtain ⟨S', D, C'⟩ := C.dr (kept := fun a => decide (a ∈ roots))
  refine ⟨S', ⟨_, _, ?_, fun k => ?_, by rw [ek]; exact D⟩, C'⟩
  · have h1 := (List.takeWhile_sublist (p := fun a => !decide (a ∈ roots)) (l := l)).length_le
    have := C.len
    omega
  · dsimp only
    rw [ek, C.zero k]; exact fstK_iff (kept := fun a => decide (a ∈ roots)) l k
/-- .. that has no root. -/
theorem Chn.drAll {S : EngS} {l : List Int} (C : Chn S l) : ∃ S', DrR S [] S' l [] ∧ Chn S' [] := by
  obtain ⟨S', D, C'⟩ := C.drR []
  obtain ⟨h1, h2⟩ := tw_all (l := l) (p := fun a => !decide (a ∈ ([] : List Int))) (fun x _ => by simp)
  rw [h1] at D
  rw [h2] at C'
  exact ⟨S', D, C'⟩
/-- .. that has one. -/
theorem Chn.drAt {S : EngS} {l : List Int} (C : Chn S l) {j : Nat} (hj : j < l.length) : ∃ S', DrR S [l.getD j 0] S' (l.take j) [] ∧ Chn S' (l.drop j) := by
  obtain ⟨S', D, C'⟩ := C.drR [l.getD j 0]
  obtain ⟨h1, h2⟩ := tw_at l j C.G.nodup hj
  rw [h1] at D
  rw [h2] at C'
  exact ⟨S', D, C'⟩
/-! ### the first one is watched -/
/-- Told, and pending. -/
structure ChnT (S : EngS) (l : List Int) (a : Int) : Prop where
  G : Gd S (a :: l)
  row : ChnR S (a :: l)
  wat : ∀ k, S.wat k = false
  pend : S.pend = [a]
  rng : ∀ k ∈ a :: l, 0 ≤ k ∧ k < KB
  len : (a :: l).length ≤ 60
theorem Chn.watch {S : EngS} {a : Int} {l : List Int} (C : Chn S (a :: l)) : ∃ S', DrR (watA S a true) [] S' [] [a] ∧ ChnT S' l a := by
  obtain ⟨x, hx⟩ := C.ob (k := a) (by simp)
  have hw : (watA S a true).wat a = true := if_pos rfl
  have hp : (watA S a true).pend = [] := C.pend
  refine ⟨tellA (watA S a true) a, ⟨some a, 1, by omega, fun k => ?_, Dr.tell (x := x) hw hx (by rw [hp]; simp) (C.rng a (by simp)) (Dr.done _ _)⟩, ⟨⟨C.G.nodup, C.G.mem, C.G.weak, C.G.st, C.G.cnt, C.G.zero, C.G.pu1, C.G.pu2, C.G.low⟩, ?_, fun k => ?_, ?_, C.rng, C.len⟩⟩
  · have e : keptA (watA S a true) [] k = false := by
      unfold keptA
      rw [hp]; rfl
    dsimp only
    rw [e]
    have := C.zero k
    simp only [List.head?_cons] at this
    show (S.Z k = true ∧ _) ↔ _
    rw [this]; simp
  · exact ChnR.congr (S := S) (fun y _ => rfl) C.row
  · show updS (updS S.wat a true) a false k = false
    unfold updS
    split
    · rfl
    · exact C.wat k
  · show (watA S a true).pend ++ [a] = [a]
    rw [hp]; rfl
theorem ChnT.idle {S : EngS} {a : Int} {l : List Int} (C : ChnT S l a) : DrR S [] S [] [] :=
  DrR.idle fun k hk => by
    have C' : Chn (pendA S []) (a :: l) := ⟨⟨C.G.nodup, C.G.mem, C.G.weak, C.G.st, C.G.cnt, C.G.zero, C.G.pu1, C.G.pu2, C.G.low⟩, ChnR.congr (S := S) (fun y _ => rfl) C.row, C.wat, rfl, C.rng, C.len⟩
    have := (C'.zero k).1 hk
    simp only [List.head?_cons, Option.some.injEq] at this
    subst this
    exact .inr (by rw [C.pend]; simp)
theorem ChnT.take {S : EngS} {a : Int} {l : List Int} (C : ChnT S l a) : Chn (pendA S []) (a :: l) :=
  ⟨⟨C.G.nodup, C.G.mem, C.G.weak, C.G.st, C.G.cnt, C.G.zero, C.G.pu1, C.G.pu2, C.G.low⟩, ChnR.congr (S := S) (fun y _ => rfl) C.row, C.wat, rfl, C.rng, C.len⟩
/-- The first one is a root. -/
theorem Chn.idle {S : EngS} {a : Int} {l : List Int} (C : Chn S (a :: l)) : DrR S [a] S [] [] :=
  DrR.idle fun k hk => by
    have := (C.zero k).1 hk
    simp only [List.head?_cons, Option.some.injEq] at this
    subst this
    exact .inl (by simp)
/-! ### what several refer to -/
structure Shr (S : EngS) (x : Int) (l : List Int) : Prop where
  G : Gd S (x :: l)
  none : refsA S x = []
  one : ∀ a ∈ l, refsA S a = [x]
  wat : ∀ k, S.wat k = false
  pend : S.pend = []
  rng : ∀ k ∈ x :: l, 0 ≤ k ∧ k < KB
  len : l.length ≤ 60
theorem sumN_ones {S : EngS} {x : Int} : ∀ {l : List Int}, (∀ a ∈ l, refsA S a = [x]) → ∀ k, sumN (fun y => (refsA S y).count k) l = if x = k then l.length else 0
  | [], _, k => by simp [sumN]
  | a :: l, h, k => by
    show (refsA S a).count k + sumN _ l = _
    rw [h a (by simp), sumN_ones (fun b hb => h b (by simp [hb])) k, List.count_cons, List.count_nil]
    by_cases e : x = k
    · subst e; simp; omega
    · have : (x == k) = false := by simpa using e
      simp [e]
theorem Shr.cnt {S : EngS} {x : Int} {l : List Int} (C : Shr S x l) (k : Int) : cntR S (x :: l) k = if x = k then l.length else 0 := by
  show (refsA S x).count k + sumN _ l = _
  rw [C.none, sumN_ones C.one k]
  simp
theorem Shr.zero {S : EngS} {x : Int} {l : List Int} (C : Shr S x l) (k : Int) : S.Z k = true ↔ k ∈ l ∨ (k = x ∧ l = []) := by
  obtain ⟨n1, n2⟩ := List.nodup_cons.1 C.G.nodup
  rw [C.G.zero k]
  have hc := fun h => C.G.cnt k h
  rw [C.cnt k] at hc
  constructor
  · rintro ⟨h1, h2⟩
    rcases List.mem_cons.1 h1 with rfl | h3
    · right
      have := hc h1
      rw [if_pos rfl] at this
      exact ⟨rfl, List.eq_nil_of_length_eq_zero (by omega)⟩
    · exact .inl h3
  · rintro (h | ⟨rfl, rfl⟩)
    · refine ⟨by simp [h], ?_⟩
      rw [hc (by simp [h]), if_neg (fun e => n1 (by rw [e]; exact h))]; rfl
    · refine ⟨by simp, ?_⟩
      rw [hc (by simp), if_pos rfl]; rfl
theorem Shr.ob {S : EngS} {x : Int} {l : List Int} (C : Shr S x l) {k : Int} (h : k ∈ x :: l) : ∃ y, S.ob k = some y := (C.G.mem k).1 h
theorem Shr.weak {S : EngS} {x : Int} {l : List Int} (C : Shr S x l) : S.weak = fun _ => false := funext C.G.weak
theorem Shr.free {S : EngS} {x a : Int} {l : List Int} (C : Shr S x (a :: l)) : Shr (freeA S a) x l := by
  obtain ⟨G', _, hr, _, _, _, hw, hp, _⟩ := C.G.free (h := a) (by simp)
  obtain ⟨n1, n2⟩ := List.nodup_cons.1 C.G.nodup
  obtain ⟨n3, n4⟩ := List.nodup_cons.1 n2
  have hne : x ≠ a := fun e => n1 (by rw [e]; simp)
  have he : (x :: a :: l).erase a = x :: l := by
    rw [List.erase_cons_tail (by simpa using hne), List.erase_cons_head]
  rw [he] at G'
  refine ⟨G', (hr x hne).trans C.none, fun b hb => (hr b fun e => n3 (by rw [← e]; exact hb)).trans (C.one b (by simp [hb])), fun k => ?_, by rw [hp, C.pend]; rfl, fun k hk => C.rng k ?_, by have := C.len; simp at this; omega⟩
  · rw [hw]
    unfold updS
    split
    · rfl
    · exact C.wat k
  · rcases List.mem_cons.1 hk with h | h
    · simp [h]
    · simp [h]
theorem Shr.idle {S : EngS} {x : Int} {l : List Int} (C : Shr S x l) (hl : l ≠ []) : DrR S l S [] [] :=
  DrR.idle fun k hk => by
    rcases (C.zero k).1 hk with h | h
    · exact .inl h
    · exact absurd h.2 hl
theorem Shr.rg {S : EngS} {x a : Int} {l : List Int} (C : Shr S x (a :: l)) : Rg S a := by
  unfold Rg
  rw [C.one a (by simp), C.pend]
  refine ⟨fun k hk => ?_, by simp, by simp⟩
  simp only [List.mem_singleton] at hk
  subst hk
  exact C.rng _ (by simp)
/-- One of them is held no longer. -/
theorem Shr.next {S : EngS} {x a : Int} {l : List Int} (C : Shr S x (a :: l)) (hl : l ≠ []) : DrR S l (freeA S a) [a] [] := by
  obtain ⟨n1, n2⟩ := List.nodup_cons.1 C.G.nodup
  obtain ⟨n3, n4⟩ := List.nodup_cons.1 n2
  obtain ⟨y, hy⟩ := C.ob (k := a) (by simp)
  have ek : keptA S l = fun k => decide (k ∈ l) := by
    funext k
    unfold keptA
    rw [C.pend, List.append_nil]
  refine ⟨some a, 1, by omega, fun k => ?_, Dr.free (C.wat a) hy C.rg C.weak (td := Option.none) (fun k => ?_) (Dr.done _ _)⟩
  · dsimp only
    rw [C.zero k, ek]
    simp only [decide_eq_false_iff_not, Option.some.injEq]
    constructor
    · rintro ⟨h1 | h1, h2⟩
      · rcases List.mem_cons.1 h1 with rfl | h3
        · rfl
        · exact absurd h3 h2
      · cases h1.2
    · rintro rfl
      exact ⟨.inl (by simp), n3⟩
  · dsimp only
    rw [C.one a (by simp), C.free.zero k]
    refine ⟨fun h => ?_, fun h => (by cases h)⟩
    have h1 := h.1
    simp only [List.mem_singleton] at h1
    subst h1
    rcases h.2.1 with h2 | h2
    · exact absurd (by simp [h2]) n1
    · exact absurd h2.2 hl
/-- .. the last one. -/
theorem Shr.last {S : EngS} {x a : Int} (C : Shr S x [a]) : ∃ S', DrR S [] S' [a, x] [] ∧ Gd S' [] := by
  have C' := C.free
  obtain ⟨y, hy⟩ := C.ob (k := a) (by simp)
  obtain ⟨z, hz⟩ := C'.ob (k := x) (by simp)
  obtain ⟨G', _⟩ := C'.G.free (h := x) (by simp)
  rw [List.erase_cons_head] at G'
  have ek : keptA S [] = fun _ => false := by
    funext k
    unfold keptA
    rw [C.pend]; rfl
  refine ⟨freeA (freeA S a) x, ⟨some a, 2, by omega, fun k => ?_, Dr.free (C.wat a) hy C.rg C.weak (td := some x) (fun k => ?_) (Dr.free (C'.wat x) hz ?_ C'.weak (td := Option.none) (fun k => ?_) (Dr.done _ _))⟩, G'⟩
  · dsimp only
    rw [C.zero k, ek]
    simp only [Option.some.injEq, and_true]
    constructor
    · rintro (h1 | h1)
      · simp only [List.mem_singleton] at h1; exact h1.symm
      · cases h1.2
    · rintro rfl
      exact .inl (by simp)
  · dsimp only
    rw [C.one a (by simp), C'.zero k, ek]
    simp only [List.mem_singleton, Option.some.injEq, and_true]
    constructor
    · exact fun h => h.1.symm
    · rintro rfl
      exact ⟨rfl, .inr rfl⟩
  · unfold Rg
    rw [C'.none, C'.pend]
    exact ⟨fun k hk => (by cases hk), by simp, by simp⟩
  · dsimp only
    rw [C'.none]
    exact ⟨fun h => (by cases h.1), fun h => (by cases h)⟩
end Go.Proofs.YtlpklloagaccoaaGreat
namespace Go.Proofs.YtlpklloagaccoaaGreat
open Go.RowKit
set_option linter.unusedVariables false

/-! ### what can be reached -/
/-- Going over what can be reached: what is marked, the row of work; what is marked in the end; in how many rounds. -/
inductive Rc (S : EngS) : (Int → Bool) → List Int → (Int → Bool) → Nat → Prop
  | done (V : Int → Bool) : Rc S V [] V 0
  | skip {V V' : Int → Bool} {ws : List Int} {h : Int} {n : Nat} : (S.ob h = none ∨ V h = true) → Rc S V ws V' n → Rc S V (ws ++ [h]) V' (n + 1)
  | step {V V' : Int → Bool} {ws : List Int} {h : Int} {n : Nat} {x : Ob} : S.ob h = some x → V h = false → Rc S (updS V h true) (ws ++ refsA S h) V' n → Rc S V (ws ++ [h]) V' (n + 1)
theorem Rc.inv {S : EngS} {V V' : Int → Bool} {ws : List Int} {n : Nat} (h : Rc S V ws V' n) : (ws = [] ∧ V' = V ∧ n = 0) ∨
    ∃ us k m, ws = us ++ [k] ∧ n = m + 1 ∧ ((S.ob k = none ∧ Rc S V us V' m) ∨ ((∃ x, S.ob k = some x) ∧ V k = true ∧ Rc S V us V' m) ∨ ((∃ x, S.ob k = some x) ∧ V k = false ∧ Rc S (updS V k true) (us ++ refsA S k) V' m)) := by
  cases h with
  | done => exact .inl ⟨rfl, rfl, rfl⟩
  | skip h1 h2 =>
    refine .inr ⟨_, _, _, rfl, rfl, ?_⟩
    rename_i us k m
    cases hx : S.ob k with
    | none => exact .inl ⟨rfl, h2⟩
    | some x =>
      rcases h1 with h1 | h1
      · rw [hx] at h1; cases h1
      · exact .inr (.inl ⟨⟨x, rfl⟩, h1, h2⟩)
  | step h1 h2 h3 => exact .inr ⟨_, _, _, rfl, rfl, .inr (.inr ⟨⟨_, h1⟩, h2, h3⟩)⟩
theorem Rc.len {S : EngS} {V V' : Int → Bool} {ws : List Int} {n : Nat} (h : Rc S V ws V' n) : ws.length ≤ n := by
  induction h with
  | done => exact Nat.le_refl _
  | skip _ _ ih => rw [List.length_append]; simp; omega
  | step _ _ _ ih => rw [List.length_append] at ih ⊢; simp; omega
theorem updS_true {V : Int → Bool} {h k : Int} : updS V h true k = true ↔ k = h ∨ V k = true := by
  unfold updS
  by_cases e : k = h
  · rw [if_pos e]; exact ⟨fun _ => .inl e, fun _ => rfl⟩
  · rw [if_neg e]; exact ⟨.inr, fun z => z.resolve_left e⟩
theorem Rc.mono {S : EngS} {V V' : Int → Bool} {ws : List Int} {n : Nat} (h : Rc S V ws V' n) : ∀ k, V k = true → V' k = true := by
  induction h with
  | done => exact fun k hk => hk
  | skip _ _ ih => exact ih
  | step _ _ _ ih => exact fun k hk => ih k (updS_true.2 (.inr hk))
theorem Rc.all {S : EngS} {V V' : Int → Bool} {ws : List Int} {n : Nat} (h : Rc S V ws V' n) : ∀ k ∈ ws, (∃ x, S.ob k = some x) → V' k = true := by
  induction h with
  | done => exact fun k hk => (by cases hk)
  | skip h1 h2 ih =>
    intro k hk hx
    rcases List.mem_append.1 hk with h3 | h3
    · exact ih k h3 hx
    · simp only [List.mem_singleton] at h3
      subst h3
      rcases h1 with h1 | h1
      · obtain ⟨x, hx⟩ := hx
        rw [h1] at hx; cases hx
      · exact h2.mono k h1
  | step h1 h2 h3 ih =>
    intro k hk hx
    rcases List.mem_append.1 hk with h4 | h4
    · exact ih k (List.mem_append.2 (.inl h4)) hx
    · simp only [List.mem_singleton] at h4
      subst h4
      exact h3.mono k (updS_true.2 (.inl rfl))
theorem Rc.closed {S : EngS} {V V' : Int → Bool} {ws : List Int} {n : Nat} (h : Rc S V ws V' n) : ∀ k, V' k = true → V k = true ∨ ((∃ x, S.ob k = some x) ∧ ∀ y ∈ refsA S k, (∃ x, S.ob y = some x) → V' y = true) := by
  induction h with
  | done => exact fun k hk => .inl hk
  | skip _ _ ih => exact ih
  | step h1 h2 h3 ih =>
    intro k hk
    rcases ih k hk with h4 | h4
    · rcases updS_true.1 h4 with rfl | h5
      · exact .inr ⟨⟨_, h1⟩, fun y hy hx => h3.all y (List.mem_append.2 (.inr hy)) hx⟩
      · exact .inl h5
    · exact .inr h4
theorem Rc.least {S : EngS} {V V' : Int → Bool} {ws : List Int} {n : Nat} (h : Rc S V ws V' n) (C : Int → Prop) : (∀ k, V k = true → C k) → (∀ k ∈ ws, (∃ x, S.ob k = some x) → C k) → (∀ k, C k → (∃ x, S.ob k = some x) → ∀ y ∈ refsA S k, (∃ x, S.ob y = some x) → C y) → ∀ k, V' k = true → C k := by
  induction h with
  | done => exact fun h1 _ _ => h1
  | skip _ _ ih => exact fun h1 h2 h3 => ih h1 (fun k hk => h2 k (List.mem_append.2 (.inl hk))) h3
  | step g1 g2 g3 ih =>
    intro h1 h2 h3
    have hh := h2 _ (List.mem_append.2 (.inr (List.mem_singleton.2 rfl))) ⟨_, g1⟩
    refine ih (fun k hk => ?_) (fun k hk hx => ?_) h3
    · rcases updS_true.1 hk with rfl | h4
      · exact hh
      · exact h1 k h4
    · rcases List.mem_append.1 hk with h4 | h4
      · exact h2 k (List.mem_append.2 (.inl h4)) hx
      · exact h3 _ hh ⟨_, g1⟩ k h4 hx
theorem Rc.live {S : EngS} {V V' : Int → Bool} {ws : List Int} {n : Nat} (h : Rc S V ws V' n) : ∀ k, V' k = true → V k = true ∨ ∃ x, S.ob k = some x :=
  fun k hk => (h.closed k hk).imp id fun z => z.1
/-- There is such a way. -/
def wgt (S : EngS) (hs : List Int) (V : Int → Bool) : Nat := sumN (fun y => if V y = true then 0 else (refsA S y).length + 1) hs
theorem Rc.ex {S : EngS} {hs : List Int} (nd : hs.Nodup) (hm : ∀ k, (∃ x, S.ob k = some x) → k ∈ hs) : ∀ (m : Nat) (V : Int → Bool) (ws : List Int), ws.length + wgt S hs V ≤ m → ∃ V' n, n ≤ m ∧ Rc S V ws V' n
  | m, V, ws, hl => by
    rcases List.eq_nil_or_concat ws with rfl | ⟨us, k, rfl⟩
    · exact ⟨V, 0, Nat.zero_le _, .done V⟩
    · rw [List.concat_eq_append] at *
      rw [List.length_append, List.length_singleton] at hl
      obtain ⟨m', rfl⟩ : ∃ m', m = m' + 1 := ⟨m - 1, by omega⟩
      cases hx : S.ob k with
      | none =>
        obtain ⟨V', n, h1, h2⟩ := Rc.ex nd hm m' V us (by omega)
        exact ⟨V', n + 1, by omega, .skip (.inl hx) h2⟩
      | some x =>
        cases hv : V k with
        | true =>
          obtain ⟨V', n, h1, h2⟩ := Rc.ex nd hm m' V us (by omega)
          exact ⟨V', n + 1, by omega, .skip (.inr hv) h2⟩
        | false =>
          have hs1 := sumN_upd (f := fun y => if V y = true then 0 else (refsA S y).length + 1) (g := fun y => if updS V k true y = true then 0 else (refsA S y).length + 1) hs nd (hm k ⟨x, hx⟩) (fun y hy => by
            have : updS V k true y = V y := if_neg hy
            rw [this])
          have e1 : updS V k true k = true := if_pos rfl
          simp only [e1, hv, if_true, Bool.false_eq_true, if_false] at hs1
          obtain ⟨V', n, h1, h2⟩ := Rc.ex nd hm m' (updS V k true) (us ++ refsA S k) (by
            rw [List.length_append]
            unfold wgt at hl ⊢
            omega)
          exact ⟨V', n + 1, by omega, .step hx hv h2⟩
/-! ### a whole trial -/
def tellsA (S : EngS) (l : List Int) : EngS := l.foldl tellA S
def freesA (S : EngS) (l : List Int) : EngS := l.foldl freeA S
/-- What holds an object of the span from outside. -/
def outA (S : EngS) (os : List Int) (h : Int) : Bool := S.st h || decide ((cntR S os h : Int) < S.tot h)
structure Tr (S : EngS) (roots : List Int) (S' : EngS) (f t pz oz : List Int) (V1 V2 V3 : Int → Bool) (m1 m2 m3 : Nat) : Prop where
  ps : SetL S.Pu pz
  span : Rc S (fun _ => false) pz V1 m1
  os : SetL V1 oz
  hold : Rc S (fun _ => false) (oz.filter fun h => keptA S roots h || outA S oz h) V2 m2
  told : t = (oz.filter fun h => !V2 h).filter S.wat
  more : Rc (tellsA S t) V2 t V3 m3
  freed : f = oz.filter fun h => !V3 h
  end_ : S' = freesA (tellsA S t) f
  n1 : m1 < 1000000
  n2 : m2 < 1000000
  n3 : m3 < 1000000
def TrR (S : EngS) (roots : List Int) (S' : EngS) (f t : List Int) : Prop := ∃ ps os V1 V2 V3 n1 n2 n3, os.length ≤ 1000 ∧ Tr S roots S' f t ps os V1 V2 V3 n1 n2 n3
theorem tellsA_ob (S : EngS) (l : List Int) : (tellsA S l).ob = S.ob ∧ (tellsA S l).weak = S.weak ∧ (tellsA S l).pend = S.pend ++ l := by
  induction l generalizing S with
  | nil => exact ⟨rfl, rfl, by simp [tellsA]⟩
  | cons a l ih =>
    obtain ⟨h1, h2, h3⟩ := ih (tellA S a)
    refine ⟨h1, h2, ?_⟩
    show (tellsA (tellA S a) l).pend = _
    rw [h3]
    show (S.pend ++ [a]) ++ l = _
    rw [List.append_assoc]; rfl
theorem tellsA_refs (S : EngS) (l : List Int) (h : Int) : refsA (tellsA S l) h = refsA S h := by
  obtain ⟨h1, h2, _⟩ := tellsA_ob S l
  exact refsA_congr (by rw [h2]) (by rw [h1])
/-- What is left of objects. -/
theorem freeA_ob (S : EngS) (h k : Int) : (freeA S h).ob k = if k = h then none else if S.weak k = true then (S.ob k).map fun x => clrX x h else S.ob k := by
  have hs := downsA_same (refsA S h) (gone0 S h)
  show (if updS S.weak h false k = true then ((downsA (gone0 S h) (refsA S h)).ob k).map (fun x => clrX x h) else (downsA (gone0 S h) (refsA S h)).ob k) = _
  rw [hs.ob]
  show (if updS S.weak h false k = true then (updI S.ob h none k).map (fun x => clrX x h) else updI S.ob h none k) = _
  unfold updS updI
  by_cases e : k = h
  · rw [if_pos e, if_pos e, if_pos e]; rfl
  · rw [if_neg e, if_neg e, if_neg e]
theorem freeA_weak (S : EngS) (h k : Int) : (freeA S h).weak k = updS S.weak h false k := by
  have hs := downsA_same (refsA S h) (gone0 S h)
  show updS (downsA (gone0 S h) (refsA S h)).weak h false k = _
  rw [hs.weak]; rfl
theorem freeA_live (S : EngS) (h k : Int) : (∃ x, (freeA S h).ob k = some x) ↔ k ≠ h ∧ ∃ x, S.ob k = some x := by
  rw [freeA_ob]
  by_cases e : k = h
  · rw [if_pos e]; exact ⟨fun ⟨x, hx⟩ => (by cases hx), fun hx => absurd e hx.1⟩
  · rw [if_neg e]
    by_cases hw : S.weak k = true
    · rw [if_pos hw]
      cases S.ob k with
      | none => exact ⟨fun ⟨x, hx⟩ => (by cases hx), fun ⟨_, x, hx⟩ => (by cases hx)⟩
      | some y => exact ⟨fun _ => ⟨e, y, rfl⟩, fun _ => ⟨clrX y h, rfl⟩⟩
    · rw [if_neg hw]; exact ⟨fun hx => ⟨e, hx⟩, fun hx => hx.2⟩
theorem freesA_live : ∀ (l : List Int) (S : EngS) (k : Int), (∃ x, (freesA S l).ob k = some x) ↔ k ∉ l ∧ ∃ x, S.ob k = some x
  | [], S, k => ⟨fun h => ⟨by simp, h⟩, fun h => h.2⟩
  | a :: l, S, k => by
    show (∃ x, (freesA (freeA S a) l).ob k = some x) ↔ _
    rw [freesA_live l (freeA S a) k, freeA_live, List.mem_cons]
    constructor
    · rintro ⟨h1, h2, h3⟩
      exact ⟨fun z => z.elim h2 h1, h3⟩
    · rintro ⟨h1, h2⟩
      exact ⟨fun z => h1 (.inr z), fun z => h1 (.inl z), h2⟩
theorem freeA_pend (S : EngS) (h : Int) : (freeA S h).pend.length ≤ S.pend.length := by
  have hs := downsA_same (refsA S h) (gone0 S h)
  show ((downsA (gone0 S h) (refsA S h)).pend.filter _).length ≤ _
  rw [hs.pend]
  exact List.length_filter_le _ _
theorem freesA_pend : ∀ (l : List Int) (S : EngS), (freesA S l).pend.length ≤ S.pend.length
  | [], S => Nat.le_refl _
  | a :: l, S => Nat.le_trans (freesA_pend l (freeA S a)) (freeA_pend S a)
/-- Zeros and purple ones are objects. -/
structure Liv (S : EngS) : Prop where
  z : ∀ k, S.Z k = true → ∃ x, S.ob k = some x
  p : ∀ k, S.Pu k = true → ∃ x, S.ob k = some x
theorem downO_liv {S : EngS} {h : Int} (x : Int) (L : ∀ k, k ≠ h → (S.Z k = true → ∃ x, S.ob k = some x) ∧ (S.Pu k = true → ∃ x, S.ob k = some x)) : ∀ k, k ≠ h → ((downO S x).Z k = true → ∃ y, (downO S x).ob k = some y) ∧ ((downO S x).Pu k = true → ∃ y, (downO S x).ob k = some y) := by
  rw [(downO_same S x).ob]
  intro k hk
  unfold downO
  by_cases hs : (S.ob x).isSome = true
  · rw [if_pos hs]
    have hx := Option.isSome_iff_exists.1 hs
    have one : ∀ (c : Prop) [Decidable c] (V : Int → Bool), (V k = true → ∃ x, S.ob k = some x) → (if c then updS V x true else V) k = true → ∃ y, S.ob k = some y := fun c _ V hV h => by
      by_cases hc : c
      · rw [if_pos hc] at h
        rcases updS_true.1 h with e | h2
        · rw [e]; exact hx
        · exact hV h2
      · rw [if_neg hc] at h; exact hV h
    exact ⟨one _ S.Z (L k hk).1, one _ S.Pu (L k hk).2⟩
  · rw [if_neg hs]; exact L k hk
theorem downsA_liv {h : Int} : ∀ (l : List Int) (S : EngS), (∀ k, k ≠ h → (S.Z k = true → ∃ x, S.ob k = some x) ∧ (S.Pu k = true → ∃ x, S.ob k = some x)) → ∀ k, k ≠ h → ((downsA S l).Z k = true → ∃ y, (downsA S l).ob k = some y) ∧ ((downsA S l).Pu k = true → ∃ y, (downsA S l).ob k = some y)
  | [], S, L => L
  | x :: l, S, L => downsA_liv l (downO S x) (downO_liv x L)
theorem Liv.free {S : EngS} (L : Liv S) (h : Int) : Liv (freeA S h) := by
  have h1 := downsA_liv (h := h) (refsA S h) (gone0 S h) (fun k hk => by
    have e : (gone0 S h).ob k = S.ob k := if_neg hk
    rw [e]; exact ⟨L.z k, L.p k⟩)
  have e1 : ∀ k, k ≠ h → (∃ y, (downsA (gone0 S h) (refsA S h)).ob k = some y) → ∃ y, (freeA S h).ob k = some y := fun k hk hy => by
    rw [freeA_live]
    rw [(downsA_same (refsA S h) (gone0 S h)).ob] at hy
    have e : (gone0 S h).ob k = S.ob k := if_neg hk
    rw [e] at hy
    exact ⟨hk, hy⟩
  have e2 : ∀ (V : Int → Bool) k, updS V h false k = true → k ≠ h ∧ V k = true := fun V k hk => by
    unfold updS at hk
    by_cases e : k = h
    · rw [if_pos e] at hk; cases hk
    · rw [if_neg e] at hk; exact ⟨e, hk⟩
  constructor
  · intro k hk
    obtain ⟨k1, k2⟩ := e2 _ k hk
    exact e1 k k1 ((h1 k k1).1 k2)
  · intro k hk
    obtain ⟨k1, k2⟩ := e2 _ k hk
    exact e1 k k1 ((h1 k k1).2 k2)
theorem Liv.frees : ∀ (l : List Int) {S : EngS}, Liv S → Liv (freesA S l)
  | [], S, L => L
  | a :: l, S, L => Liv.frees l (L.free a)
theorem Gd.liv {S : EngS} {hs : List Int} (G : Gd S hs) : Liv S := ⟨fun k hk => (G.mem k).1 ((G.zero k).1 hk).1, fun k hk => (G.mem k).1 (G.pu2 k hk)⟩
/-- Objects that go one after the other. -/
theorem Gd.frees : ∀ (l : List Int) {S : EngS} {hs : List Int}, Gd S hs → l.Nodup → (∀ k ∈ l, k ∈ hs) → Gd (freesA S l) (l.foldl List.erase hs)
  | [], S, hs, G, _, _ => G
  | a :: l, S, hs, G, nd, hm => by
    obtain ⟨n1, n2⟩ := List.nodup_cons.1 nd
    exact Gd.frees l (G.free (hm a (by simp))).1 n2 fun k hk => (List.Nodup.mem_erase_iff G.nodup).2 ⟨fun e => n1 (by rw [← e]; exact hk), hm k (by simp [hk])⟩
end Go.Proofs.YtlpklloagaccoaaGreat
namespace Go.Proofs.YtlpklloagaccoaaGreat
open Go.RowKit
set_option linter.unusedVariables false

theorem rise_eq {xs ys : List Int} (h1 : xs.Pairwise (· < ·)) (h2 : ys.Pairwise (· < ·)) (h : ∀ k, k ∈ xs ↔ k ∈ ys) : xs = ys := by
  have n1 : xs.Nodup := h1.imp fun {a b} h e => by omega
  have n2 : ys.Nodup := h2.imp fun {a b} h e => by omega
  refine ((List.perm_ext_iff_of_nodup n1 n2).2 h).eq_of_pairwise (le := fun a b => a < b) (fun a b _ _ h1 h2 => by omega) h1 h2
theorem rise_sort {hs : List Int} (nd : hs.Nodup) : ∃ ks : List Int, ks.Pairwise (· < ·) ∧ (∀ k, k ∈ ks ↔ k ∈ hs) ∧ ks.length = hs.length := by
  have tr : ∀ a b c : Int, decide (a ≤ b) = true → decide (b ≤ c) = true → decide (a ≤ c) = true := fun a b c h1 h2 => by simp only [decide_eq_true_eq] at *; omega
  have to : ∀ a b : Int, (decide (a ≤ b) || decide (b ≤ a)) = true := fun a b => by simp only [Bool.or_eq_true, decide_eq_true_eq]; omega
  have h1 := List.pairwise_mergeSort tr to hs
  have hp := List.mergeSort_perm hs (fun x y => decide (x ≤ y))
  have h2 : (hs.mergeSort fun x y => decide (x ≤ y)).Nodup := hp.nodup_iff.2 nd
  refine ⟨_, (List.Pairwise.and h1 h2).imp fun {a b} h => ?_, fun k => hp.mem_iff, hp.length_eq⟩
  have := of_decide_eq_true h.1
  have := h.2
  omega
theorem sumN_perm {f : Int → Nat} {xs ys : List Int} (h : xs.Perm ys) : sumN f xs = sumN f ys := by
  induction h with
  | nil => rfl
  | cons x _ ih => show f x + sumN f _ = f x + sumN f _; rw [ih]
  | swap x y l => show f y + (f x + sumN f l) = f x + (f y + sumN f l); omega
  | trans _ _ h1 h2 => exact h1.trans h2
theorem cntR_same {S : EngS} {xs ys : List Int} (h1 : xs.Nodup) (h2 : ys.Nodup) (h : ∀ k, k ∈ xs ↔ k ∈ ys) (k : Int) : cntR S xs k = cntR S ys k :=
  sumN_perm ((List.perm_ext_iff_of_nodup h1 h2).2 h)
theorem sumN_mul {f : Int → Nat} {c : Nat} : ∀ {l : List Int}, (∀ y ∈ l, f y ≤ c) → sumN f l ≤ l.length * c
  | [], _ => Nat.zero_le _
  | y :: l, h => by
    have h1 := sumN_mul (f := f) (c := c) (l := l) fun z hz => h z (by simp [hz])
    have h2 := h y (by simp)
    show f y + sumN f l ≤ (l.length + 1) * c
    rw [Nat.succ_mul]; omega
/-- An engine's objects, rising; few. -/
structure Obs (S : EngS) (ks : List Int) : Prop where
  rise : ks.Pairwise (· < ·)
  mem : ∀ k, k ∈ ks ↔ ∃ x, S.ob k = some x
  len : ks.length ≤ 100
  refs : ∀ k, (refsA S k).length ≤ 100
  liv : Liv S
theorem Obs.wgt {S : EngS} {ks : List Int} (O : Obs S ks) (V : Int → Bool) : wgt S ks V ≤ 10100 := by
  have h1 := sumN_mul (f := fun y => if V y = true then 0 else (refsA S y).length + 1) (c := 101) (l := ks) fun y _ => by
    show (if V y = true then 0 else (refsA S y).length + 1) ≤ 101
    have := O.refs y
    split <;> omega
  have h2 := O.len
  unfold Go.Proofs.YtlpklloagaccoaaGreat.wgt
  have h3 : ks.length * 101 ≤ 100 * 101 := Nat.mul_le_mul_right _ h2
  omega
theorem Obs.nodup {S : EngS} {ks : List Int} (O : Obs S ks) : ks.Nodup := sorted_nodup O.rise
theorem Obs.ex {S : EngS} {ks : List Int} (O : Obs S ks) (V : Int → Bool) (ws : List Int) (hw : ws.length ≤ 100) : ∃ V' n, n < 1000000 ∧ Rc S V ws V' n := by
  obtain ⟨V', n, h1, h2⟩ := Rc.ex O.nodup (fun k hk => (O.mem k).2 hk) 10200 V ws (by have := O.wgt V; omega)
  exact ⟨V', n, by omega, h2⟩
theorem Obs.tells {S : EngS} {ks : List Int} (O : Obs S ks) (t : List Int) (V : Int → Bool) (ws : List Int) (hw : ws.length ≤ 100) : ∃ V' n, n < 1000000 ∧ Rc (tellsA S t) V ws V' n := by
  have he : (fun y => if V y = true then 0 else (refsA (tellsA S t) y).length + 1) = fun y => if V y = true then 0 else (refsA S y).length + 1 := by
    funext y
    rw [tellsA_refs]
  have hW : Go.Proofs.YtlpklloagaccoaaGreat.wgt (tellsA S t) ks V = Go.Proofs.YtlpklloagaccoaaGreat.wgt S ks V := by
    unfold Go.Proofs.YtlpklloagaccoaaGreat.wgt
    rw [he]
  obtain ⟨V', n, h1, h2⟩ := Rc.ex (S := tellsA S t) O.nodup (fun k hk => (O.mem k).2 (by rw [(tellsA_ob S t).1] at hk; exact hk)) 10200 V ws (by have := O.wgt V; omega)
  exact ⟨V', n, by omega, h2⟩
/-- A trial has an outcome. -/
theorem Tr.ex {S : EngS} {ks : List Int} (O : Obs S ks) (roots : List Int) : ∃ S' f t ps os V1 V2 V3 n1 n2 n3, Tr S roots S' f t ps os V1 V2 V3 n1 n2 n3 ∧ os = ks.filter V1 := by
  have hf : ∀ p : Int → Bool, (ks.filter p).length ≤ 100 := fun p => Nat.le_trans (List.length_filter_le _ _) O.len
  have hps : SetL S.Pu (ks.filter S.Pu) := ⟨O.rise.filter _, fun k => by
    rw [List.mem_filter]
    exact ⟨fun h => h.2, fun h => ⟨(O.mem k).2 (O.liv.p k h), h⟩⟩⟩
  obtain ⟨V1, n1, b1, r1⟩ := O.ex (fun _ => false) (ks.filter S.Pu) (hf _)
  have hos : SetL V1 (ks.filter V1) := ⟨O.rise.filter _, fun k => by
    rw [List.mem_filter]
    exact ⟨fun h => h.2, fun h => ⟨(O.mem k).2 ((r1.live k h).resolve_left (by decide)), h⟩⟩⟩
  have hf2 : ∀ p : Int → Bool, ((ks.filter V1).filter p).length ≤ 100 := fun p => Nat.le_trans (List.length_filter_le _ _) (hf _)
  obtain ⟨V2, n2, b2, r2⟩ := O.ex (fun _ => false) ((ks.filter V1).filter fun h => keptA S roots h || outA S (ks.filter V1) h) (hf2 _)
  obtain ⟨V3, n3, b3, r3⟩ := O.tells (((ks.filter V1).filter fun h => !V2 h).filter S.wat) V2 (((ks.filter V1).filter fun h => !V2 h).filter S.wat) (Nat.le_trans (List.length_filter_le _ _) (hf2 _))
  exact ⟨_, _, _, _, _, _, _, _, _, _, _, ⟨hps, r1, hos, r2, rfl, r3, rfl, rfl, b1, b2, b3⟩, rfl⟩
theorem Rc.nil {S : EngS} {V V' : Int → Bool} {n : Nat} (h : Rc S V [] V' n) : V' = V := by
  rcases h.inv with h | ⟨us, k, m, e, _⟩
  · exact h.2.1
  · exact absurd e.symm (by simp)
/-- The objects of D go: nobody holds them; all else is held. None is watched. -/
theorem tr_split {S : EngS} {ks : List Int} (O : Obs S ks) (roots : List Int) (D : Int → Bool)
    (hpu : ∀ k ∈ ks, D k = true → S.Pu k = true)
    (hseed : ∀ os : List Int, os.Nodup → (∀ k ∈ os, k ∈ ks) → (∀ k, S.Pu k = true → k ∈ os) → ∀ k ∈ os, D k = true → keptA S roots k = false ∧ outA S os k = false)
    (hcl : ∀ k ∈ ks, D k = false → ∀ y ∈ refsA S k, D y = false)
    (hrest : ∀ (os : List Int) (V : Int → Bool), os.Nodup → (∀ k ∈ os, k ∈ ks) → (∀ k, S.Pu k = true → k ∈ os) → (∀ k ∈ os, ∀ y ∈ refsA S k, y ∈ ks → y ∈ os) → (∀ k ∈ os, (keptA S roots k || outA S os k) = true → V k = true) → (∀ k, V k = true → ∀ y ∈ refsA S k, y ∈ ks → V y = true) → ∀ k ∈ os, D k = false → V k = true)
    (hwat : ∀ k ∈ ks, D k = true → S.wat k = false) : TrR S roots (freesA S (ks.filter D)) (ks.filter D) [] := by
  obtain ⟨S', f, t, ps, os, V1, V2, V3, n1, n2, n3, T, hos⟩ := Tr.ex O roots
  have hlen : os.length ≤ 1000 := by rw [hos]; have := O.len; have := List.length_filter_le V1 ks; omega
  have hnd : os.Nodup := sorted_nodup T.os.sorted
  have hsub : ∀ k ∈ os, k ∈ ks := fun k hk => by rw [hos] at hk; exact (List.mem_filter.1 hk).1
  have hPu : ∀ k, S.Pu k = true → k ∈ os := fun k hk => (T.os.mem k).2 (T.span.all k ((T.ps.mem k).2 hk) (O.liv.p k hk))
  have hclo : ∀ k ∈ os, ∀ y ∈ refsA S k, y ∈ ks → y ∈ os := fun k hk y hy hys => by
    rcases T.span.closed k ((T.os.mem k).1 hk) with h | h
    · cases h
    · exact (T.os.mem y).2 (h.2 y hy ((O.mem y).1 hys))
  have hlow : ∀ k, V2 k = true → D k = false := by
    refine T.hold.least (fun k => D k = false) (fun k hk => (by cases hk)) (fun k hk hx => ?_) (fun k hk hx y hy hxy => hcl k ((O.mem k).2 hx) hk y hy)
    obtain ⟨h1, h2⟩ := List.mem_filter.1 hk
    cases hd : D k with
    | false => rfl
    | true =>
      obtain ⟨h3, h4⟩ := hseed os hnd hsub hPu k h1 hd
      rw [h3, h4] at h2
      cases h2
  have hup : ∀ k ∈ os, D k = false → V2 k = true := hrest os V2 hnd hsub hPu hclo (fun k hk h => T.hold.all k (List.mem_filter.2 ⟨hk, h⟩) ((O.mem k).1 (hsub k hk))) (fun k hk y hy hys => by
    rcases T.hold.closed k hk with h | h
    · cases h
    · exact h.2 y hy ((O.mem y).1 hys))
  have hw : (os.filter fun h => !V2 h) = ks.filter D := by
    refine rise_eq (T.os.sorted.filter _) (O.rise.filter _) fun k => ?_
    rw [List.mem_filter, List.mem_filter]
    constructor
    · rintro ⟨h1, h2⟩
      refine ⟨hsub k h1, ?_⟩
      cases hd : D k with
      | true => rfl
      | false => rw [hup k h1 hd] at h2; cases h2
    · rintro ⟨h1, h2⟩
      refine ⟨hPu k (hpu k h1 h2), ?_⟩
      cases hv : V2 k with
      | false => rfl
      | true => rw [hlow k hv] at h2; cases h2
  have ht : t = [] := by
    rw [T.told, hw]
    refine List.filter_eq_nil_iff.2 fun k hk => ?_
    obtain ⟨h1, h2⟩ := List.mem_filter.1 hk
    rw [hwat k h1 h2]; decide
  subst ht
  have hm := T.more
  have h3 := hm.nil
  subst h3
  have hf : f = ks.filter D := T.freed.trans hw
  subst hf
  have he : S' = freesA S (ks.filter D) := T.end_
  subst he
  exact ⟨_, _, _, _, _, _, _, _, hlen, T⟩
/-- Nobody holds anything; some are watched, and hold all. -/
theorem tr_told {S : EngS} {ks : List Int} (O : Obs S ks) (roots : List Int)
    (hpu : ∀ k ∈ ks, S.Pu k = true)
    (hseed : ∀ k ∈ ks, keptA S roots k = false ∧ outA S ks k = false)
    (hrest : ∀ V : Int → Bool, (∀ k ∈ ks, S.wat k = true → V k = true) → (∀ k, V k = true → ∀ y ∈ refsA S k, y ∈ ks → V y = true) → ∀ k ∈ ks, V k = true) : TrR S roots (tellsA S (ks.filter S.wat)) [] (ks.filter S.wat) := by
  obtain ⟨S', f, t, ps, os, V1, V2, V3, n1, n2, n3, T, hos⟩ := Tr.ex O roots
  have hlen : os.length ≤ 1000 := by rw [hos]; have := O.len; have := List.length_filter_le V1 ks; omega
  have hsub : ∀ k ∈ os, k ∈ ks := fun k hk => by rw [hos] at hk; exact (List.mem_filter.1 hk).1
  have hPu : ∀ k, S.Pu k = true → k ∈ os := fun k hk => (T.os.mem k).2 (T.span.all k ((T.ps.mem k).2 hk) (O.liv.p k hk))
  have hoe : os = ks := rise_eq T.os.sorted O.rise fun k => ⟨hsub k, fun hk => hPu k (hpu k hk)⟩
  subst hoe
  have hs : (os.filter fun h => keptA S roots h || outA S os h) = [] := List.filter_eq_nil_iff.2 fun k hk => by
    obtain ⟨h1, h2⟩ := hseed k hk
    rw [h1, h2]; decide
  have hh := T.hold
  rw [hs] at hh
  have h2 := hh.nil
  subst h2
  have hw : (os.filter fun h => !(fun _ => false : Int → Bool) h) = os := List.filter_eq_self.2 fun k _ => rfl
  have ht : t = os.filter S.wat := T.told.trans (by rw [hw])
  have hm := T.more
  have hall : ∀ k ∈ os, V3 k = true := hrest V3 (fun k hk h => hm.all k (by rw [ht]; exact List.mem_filter.2 ⟨hk, h⟩) (by rw [(tellsA_ob S t).1]; exact (O.mem k).1 hk)) (fun k hk y hy hys => by
    rcases hm.closed k hk with h | h
    · cases h
    · refine h.2 y (by rw [tellsA_refs]; exact hy) ?_
      rw [(tellsA_ob S t).1]; exact (O.mem y).1 hys)
  have hf : f = [] := T.freed.trans (List.filter_eq_nil_iff.2 fun k hk => by rw [hall k hk]; decide)
  subst hf
  subst ht
  have he : S' = tellsA S (os.filter S.wat) := T.end_
  subst he
  exact ⟨_, _, _, _, _, _, _, _, hlen, T⟩
/-- What is counted, and all of the objects: nobody is outside. -/
theorem Gd.outA {S : EngS} {hs os : List Int} (G : Gd S hs) (h1 : os.Nodup) (h : ∀ k, k ∈ os ↔ k ∈ hs) {k : Int} (hk : k ∈ hs) : Go.Proofs.YtlpklloagaccoaaGreat.outA S os k = false := by
  unfold Go.Proofs.YtlpklloagaccoaaGreat.outA
  rw [G.st, Bool.false_or, G.cnt k hk, cntR_same h1 G.nodup h]
  exact decide_eq_false (by omega)
end Go.Proofs.YtlpklloagaccoaaGreat
namespace Go.Proofs.YtlpklloagaccoaaGreat
open Go.RowKit
set_option linter.unusedVariables false

/-- Where the k-th block of a class lies. -/
def hN (c k : Nat) : Nat := 64 + k * lenN c
/-- What is left behind k blocks of a class. -/
structure AlN (L : Al) (n c k : Nat) : Prop where
  n : L.n = n
  ok : L.ok = true
  t : L.t = 1 + (k + perN c - 1) / perN c
  full : k % perN c = 0 → (L.cur c).2 = perN c
  part : k % perN c ≠ 0 → L.cur c = (1 + k / perN c, k % perN c)
theorem AlN.new (n : Nat) {c : Nat} (hc : c < 5) : AlN (newAl n) n c 0 := by
  have hl := per_len hc
  refine ⟨rfl, rfl, ?_, fun _ => rfl, fun h => absurd (Nat.zero_mod _) h⟩
  show 1 = 1 + (0 + perN c - 1) / perN c
  rw [Nat.div_eq_of_lt (by omega)]
theorem AlN.step {L : Al} {n c k m : Nat} (h : AlN L n c k) (hc : c < 5) (hm : classN m = c) (hr : 2 + k / perN c ≤ n) : ∃ L', tookL L m = some (L', hN c k) ∧ AlN L' n c (k + 1) := by
  suffices H : ∃ L', tookL L m = some (L', hN c k) ∧ L'.n = n ∧ L'.ok = true ∧ L'.t = 1 + (k + 1 + perN c - 1) / perN c ∧ ((k + 1) % perN c = 0 → (L'.cur c).2 = perN c) ∧ ((k + 1) % perN c ≠ 0 → L'.cur c = (1 + (k + 1) / perN c, (k + 1) % perN c)) by
    obtain ⟨L', h1, h2, h3, h4, h5, h6⟩ := H
    exact ⟨L', h1, h2, h3, h4, h5, h6⟩
  obtain ⟨h1, h2, h3, h4, h5⟩ := h
  have h55 : classN m ≠ 5 := by omega
  unfold tookL hN
  rw [if_neg h55, hm]
  have hcases : (perN c = 32 ∧ lenN c = 2) ∨ (perN c = 16 ∧ lenN c = 4) ∨ (perN c = 8 ∧ lenN c = 8) ∨ (perN c = 4 ∧ lenN c = 16) ∨ (perN c = 2 ∧ lenN c = 32) := by
    rcases cls_cases hc with rfl | rfl | rfl | rfl | rfl
    · exact .inl ⟨rfl, rfl⟩
    · exact .inr (.inl ⟨rfl, rfl⟩)
    · exact .inr (.inr (.inl ⟨rfl, rfl⟩))
    · exact .inr (.inr (.inr (.inl ⟨rfl, rfl⟩)))
    · exact .inr (.inr (.inr (.inr ⟨rfl, rfl⟩)))
  clear hm h55
  generalize perN c = per at *
  generalize lenN c = len at *
  by_cases hk : k % per = 0
  · have h6 := h4 hk
    rw [if_neg (by rw [h6]; omega), if_pos (by rw [h1, h3]; rcases hcases with ⟨rfl, _⟩ | ⟨rfl, _⟩ | ⟨rfl, _⟩ | ⟨rfl, _⟩ | ⟨rfl, _⟩ <;> omega)]
    refine ⟨_, congrArg some (Prod.ext rfl ?_), h1, h2, ?_, fun h => ?_, fun h => ?_⟩
    · show L.t * 64 = 64 + k * len
      rw [h3]; rcases hcases with ⟨rfl, rfl⟩ | ⟨rfl, rfl⟩ | ⟨rfl, rfl⟩ | ⟨rfl, rfl⟩ | ⟨rfl, rfl⟩ <;> omega
    · show L.t + 1 = 1 + (k + 1 + per - 1) / per
      rw [h3]; rcases hcases with ⟨rfl, rfl⟩ | ⟨rfl, rfl⟩ | ⟨rfl, rfl⟩ | ⟨rfl, rfl⟩ | ⟨rfl, rfl⟩ <;> omega
    · exfalso
      rcases hcases with ⟨rfl, rfl⟩ | ⟨rfl, rfl⟩ | ⟨rfl, rfl⟩ | ⟨rfl, rfl⟩ | ⟨rfl, rfl⟩ <;> omega
    · show updF L.cur c (L.t, 1) c = _
      unfold updF
      rw [if_pos rfl, h3]
      refine Prod.ext ?_ ?_
      · show 1 + (k + per - 1) / per = 1 + (k + 1) / per
        rcases hcases with ⟨rfl, rfl⟩ | ⟨rfl, rfl⟩ | ⟨rfl, rfl⟩ | ⟨rfl, rfl⟩ | ⟨rfl, rfl⟩ <;> omega
      · show 1 = (k + 1) % per
        rcases hcases with ⟨rfl, rfl⟩ | ⟨rfl, rfl⟩ | ⟨rfl, rfl⟩ | ⟨rfl, rfl⟩ | ⟨rfl, rfl⟩ <;> omega
  · have h6 := h5 hk
    rw [if_pos (by rw [h6]; exact Nat.mod_lt _ (by rcases hcases with ⟨rfl, _⟩ | ⟨rfl, _⟩ | ⟨rfl, _⟩ | ⟨rfl, _⟩ | ⟨rfl, _⟩ <;> omega))]
    refine ⟨_, congrArg some (Prod.ext rfl ?_), h1, h2, ?_, fun h => ?_, fun h => ?_⟩
    · show (L.cur c).1 * 64 + (L.cur c).2 * len = 64 + k * len
      rw [h6]
      show (1 + k / per) * 64 + k % per * len = 64 + k * len
      rcases hcases with ⟨rfl, rfl⟩ | ⟨rfl, rfl⟩ | ⟨rfl, rfl⟩ | ⟨rfl, rfl⟩ | ⟨rfl, rfl⟩ <;> omega
    · show L.t = 1 + (k + 1 + per - 1) / per
      rw [h3]; rcases hcases with ⟨rfl, rfl⟩ | ⟨rfl, rfl⟩ | ⟨rfl, rfl⟩ | ⟨rfl, rfl⟩ | ⟨rfl, rfl⟩ <;> omega
    · show (updF L.cur c ((L.cur c).1, (L.cur c).2 + 1) c).2 = per
      unfold updF
      rw [if_pos rfl, h6]
      show k % per + 1 = per
      rcases hcases with ⟨rfl, rfl⟩ | ⟨rfl, rfl⟩ | ⟨rfl, rfl⟩ | ⟨rfl, rfl⟩ | ⟨rfl, rfl⟩ <;> omega
    · show updF L.cur c ((L.cur c).1, (L.cur c).2 + 1) c = _
      unfold updF
      rw [if_pos rfl, h6]
      refine Prod.ext ?_ ?_
      · show 1 + k / per = 1 + (k + 1) / per
        rcases hcases with ⟨rfl, rfl⟩ | ⟨rfl, rfl⟩ | ⟨rfl, rfl⟩ | ⟨rfl, rfl⟩ | ⟨rfl, rfl⟩ <;> omega
      · show k % per + 1 = (k + 1) % per
        rcases hcases with ⟨rfl, rfl⟩ | ⟨rfl, rfl⟩ | ⟨rfl, rfl⟩ | ⟨rfl, rfl⟩ | ⟨rfl, rfl⟩ <;> omega
end Go.Proofs.YtlpklloagaccoaaGreat
namespace Go.Proofs.YtlpklloagaccoaaGreat
open Go.RowKit
set_option linter.unusedVariables false

/-! ### handles given out of one class -/
def hI (c k : Nat) : Int := ((hN c k : Nat) : Int)
def hL (c n : Nat) : List Int := (List.range n).map (hI c)
theorem hL_len (c n : Nat) : (hL c n).length = n := by unfold hL; rw [List.length_map, List.length_range]
theorem hL_succ (c n : Nat) : hL c (n + 1) = hL c n ++ [hI c n] := by unfold hL; rw [List.range_succ, List.map_append]; rfl
theorem hL_getD {c n i : Nat} (h : i < n) : (hL c n).getD i 0 = hI c i := by
  unfold hL
  simp [List.getD, h]
theorem hI_lt {c : Nat} (hc : c < 5) {i j : Nat} (h : i < j) : hI c i < hI c j := by
  have hl := (per_len hc).2
  unfold hI hN
  have h1 : (i + 1) * lenN c ≤ j * lenN c := Nat.mul_le_mul_right _ h
  rw [Nat.succ_mul] at h1
  omega
theorem hI_inj {c : Nat} (hc : c < 5) {i j : Nat} (h : hI c i = hI c j) : i = j := by
  rcases Nat.lt_trichotomy i j with h1 | h1 | h1
  · have := hI_lt hc h1; omega
  · exact h1
  · have := hI_lt hc h1; omega
theorem mem_hL {c n : Nat} {k : Int} : k ∈ hL c n ↔ ∃ j, j < n ∧ k = hI c j := by
  unfold hL
  rw [List.mem_map]
  constructor
  · rintro ⟨j, h1, h2⟩; exact ⟨j, List.mem_range.1 h1, h2.symm⟩
  · rintro ⟨j, h1, h2⟩; exact ⟨j, List.mem_range.2 h1, h2.symm⟩
theorem hL_rise {c : Nat} (hc : c < 5) (n : Nat) : (hL c n).Pairwise (· < ·) := by
  unfold hL
  rw [List.pairwise_map]
  exact List.pairwise_lt_range.imp fun {a b} h => hI_lt hc h
theorem hI_rng {c : Nat} (hc : c < 5) {k : Nat} (h : k ≤ 1000) : 0 ≤ hI c k ∧ hI c k < KB := by
  have hl : lenN c ≤ 32 := by
    rcases cls_cases hc with rfl | rfl | rfl | rfl | rfl <;> decide
  have h1 : k * lenN c ≤ 1000 * 32 := Nat.mul_le_mul h hl
  unfold hI hN KB
  omega
/-- What has been set, and what is free yet. -/
structure RgS (S : EngS) (hs : List Int) (lim : Int) (T : Nat) (K : Int → Nat) (F : Int → Nat → Prop) (R : Int → Int → Prop) (W : Int → Bool) (pl : List Int) : Prop where
  G : Gd S hs
  cl : Cl S hs
  lim : S.lim = lim
  obj : ∀ h ∈ hs, ∃ x, S.ob h = some x ∧ x.cells = K h ∧ ∀ q, F h q → (x.val q).1 ≠ 3
  tot : ∀ k, S.tot k ≤ T
  refs : ∀ y k, k ∈ refsA S y ↔ R y k
  wat : S.wat = W
  pend : S.pend = pl
theorem RgS.first (n : Nat) (lim : Int) (K : Int → Nat) : RgS (newEng n lim) [] lim 0 K (fun _ _ => True) (fun _ _ => False) (fun _ => false) [] :=
  ⟨Gd.first n lim, Cl.first n lim, rfl, fun h hh => (by cases hh), fun k => Int.le_refl _, fun y k => by
    have : refsA (newEng n lim) y = [] := refsA_none rfl
    rw [this]
    exact ⟨fun h => (by cases h), fun h => h.elim⟩, rfl, rfl⟩
theorem RgS.congr {S : EngS} {hs : List Int} {lim : Int} {T T' : Nat} {K : Int → Nat} {F F' : Int → Nat → Prop} {R R' : Int → Int → Prop} {W : Int → Bool} {pl : List Int} (h : RgS S hs lim T K F R W pl) (hT : T ≤ T') (hF : ∀ k q, k ∈ hs → F' k q → F k q) (hR : ∀ y k, R y k ↔ R' y k) : RgS S hs lim T' K F' R' W pl :=
  ⟨h.G, h.cl, h.lim, fun k hk => by
    obtain ⟨x, h1, h2, h3⟩ := h.obj k hk
    exact ⟨x, h1, h2, fun q hq => h3 q (hF k q hk hq)⟩, fun k => by have := h.tot k; omega, fun y k => (h.refs y k).trans (hR y k), h.wat, h.pend⟩
theorem RgS.make {S : EngS} {hs : List Int} {lim : Int} {T : Nat} {K : Int → Nat} {F : Int → Nat → Prop} {R : Int → Int → Prop} {W : Int → Bool} {pl : List Int} (h : RgS S hs lim T K F R W pl) {L' : Al} {a kind cells raw : Nat} (hk : kind ≠ 8) (hno : S.ob (a : Int) = none) (hK : K (a : Int) = cells) :
    RgS (makeA S L' a kind cells raw) (hs ++ [(a : Int)]) lim T K F R W pl := by
  have hna : (a : Int) ∉ hs := fun hh => by
    obtain ⟨x, hx⟩ := (h.G.mem _).1 hh
    rw [hno] at hx; cases hx
  obtain ⟨G', C', r'⟩ := h.G.make (L' := L') (a := a) (kind := kind) (cells := cells) (raw := raw) hk hna h.cl
  refine ⟨G', C', h.lim, fun k hk2 => ?_, h.tot, fun y k => by rw [r']; exact h.refs y k, h.wat, h.pend⟩
  rcases List.mem_append.1 hk2 with h1 | h1
  · obtain ⟨x, h2, h3, h4⟩ := h.obj k h1
    refine ⟨x, ?_, h3, h4⟩
    show updI S.ob (a : Int) _ k = _
    unfold updI
    rw [if_neg (fun e => hna (by rw [← e]; exact h1))]; exact h2
  · simp only [List.mem_singleton] at h1
    subst h1
    exact ⟨newOb kind cells raw, if_pos rfl, hK.symm, fun q _ e => (by cases e)⟩
theorem RgS.set {S : EngS} {hs : List Int} {lim : Int} {T : Nat} {K : Int → Nat} {F : Int → Nat → Prop} {R : Int → Int → Prop} {W : Int → Bool} {pl : List Int} (h : RgS S hs lim T K F R W pl) {y n : Int} {i : Nat} (hy : y ∈ hs) (hi : i < K y) (hF : F y i) (hn : n ∈ hs) (hT : (T : Int) + 1 < lim) {x : Ob} (hx : S.ob y = some x) :
    RgS (setA S y x i 3 n) hs lim (T + 1) K (fun k q => F k q ∧ ¬ (k = y ∧ q = i)) (fun u k => R u k ∨ (u = y ∧ k = n)) W pl ∧ (∀ k, (setA S y x i 3 n).Pu k = true → S.Pu k = true ∨ k = n) ∧ (setA S y x i 3 n).L = S.L := by
  obtain ⟨x', hx', hc, hf⟩ := h.obj y hy
  rw [hx] at hx'
  cases hx'
  have h1 := h.tot n
  obtain ⟨G', hob, hr, hrh, ht, hl, hw, hp, hL⟩ := h.G.set hx (i := i) (by omega) (hf i hF) (n := n) hn (by rw [h.lim]; omega)
  have hcnt : ∀ k, (refsA (setA S y x i 3 n) y).count k = (refsA S y).count k + if n = k then 1 else 0 := fun k => by
    have h2 := refsN_count_upd x.val i 3 n k x.cells
    rw [if_neg (fun z => hf i hF z.2.1)] at h2
    have hi' : i < x.cells := by omega
    simp only [hi', true_and] at h2
    rw [hrh, refsA_of (h.G.weak y) hx]
    omega
  have hm : ∀ u k, k ∈ refsA (setA S y x i 3 n) u ↔ R u k ∨ (u = y ∧ k = n) := fun u k => by
    by_cases e : u = y
    · subst e
      rw [← h.refs u k, ← List.count_pos_iff, hcnt, ← List.count_pos_iff]
      by_cases e2 : n = k
      · subst e2; rw [if_pos rfl]; exact ⟨fun _ => .inr ⟨rfl, rfl⟩, fun _ => by omega⟩
      · rw [if_neg e2, Nat.add_zero]
        exact ⟨.inl, fun z => z.elim id fun z => absurd z.2.symm e2⟩
    · rw [hr u e, h.refs u k]
      exact ⟨.inl, fun z => z.elim id fun z => absurd z.1 e⟩
  refine ⟨⟨G', fun u k hk => ?_, hl.trans h.lim, fun k hk => ?_, fun k => ?_, hm, hw.trans h.wat, hp.trans h.pend⟩, fun k hk => ?_, hL⟩
  · rcases (hm u k).1 hk with h2 | h2
    · exact h.cl u k ((h.refs u k).2 h2)
    · rw [h2.2]; exact hn
  · rw [hob]
    by_cases e : k = y
    · subst e
      refine ⟨_, if_pos rfl, hc, fun q hq => ?_⟩
      show (updF x.val i (3, n) q).1 ≠ 3
      unfold updF
      by_cases e2 : q = i
      · exact absurd ⟨rfl, e2⟩ hq.2
      · rw [if_neg e2]; exact hf q hq.1
    · obtain ⟨z, h2, h3, h4⟩ := h.obj k hk
      exact ⟨z, (if_neg e).trans h2, h3, fun q hq => h4 q hq.1⟩
  · rw [ht]
    have := h.tot k
    split <;> omega
  · have e : setA S y x i 3 n = upA (wrA S y x i 3 n) n := by
      unfold setA
      rw [if_neg (by rw [h.G.weak]; decide), if_neg (hf i hF), if_pos rfl]
    rw [e] at hk
    have hk' : (if S.tot n = 0 then updS S.Pu n true else S.Pu) k = true := hk
    by_cases h2 : S.tot n = 0
    · rw [if_pos h2] at hk'
      rcases updS_true.1 hk' with h3 | h3
      · exact .inr h3
      · exact .inl h3
    · rw [if_neg h2] at hk'; exact .inl hk'
theorem RgS.obs {S : EngS} {hs ks : List Int} {lim : Int} {T : Nat} {K : Int → Nat} {F : Int → Nat → Prop} {R : Int → Int → Prop} {W : Int → Bool} {pl : List Int} (h : RgS S hs lim T K F R W pl) (h1 : ks.Pairwise (· < ·)) (h2 : ∀ k, k ∈ ks ↔ k ∈ hs) (h3 : ks.length ≤ 100) (h4 : ∀ k ∈ hs, K k ≤ 100) : Obs S ks :=
  ⟨h1, fun k => (h2 k).trans (h.G.mem k), h3, fun k => by
    cases hx : S.ob k with
    | none => rw [refsA_none hx]; simp
    | some x =>
      have hk := (h.G.mem k).2 ⟨x, hx⟩
      obtain ⟨x', h5, h6, _⟩ := h.obj k hk
      rw [hx] at h5
      cases h5
      rw [refsA_of (h.G.weak k) hx]
      have := refsN_len x.val x.cells
      have := h4 k hk
      omega, h.G.liv⟩
/-- Whoever is referred to is purple. -/
theorem RgS.pu {S : EngS} {hs : List Int} {lim : Int} {T : Nat} {K : Int → Nat} {F : Int → Nat → Prop} {R : Int → Int → Prop} {W : Int → Bool} {pl : List Int} (h : RgS S hs lim T K F R W pl) {y k : Int} (hR : R y k) : 1 ≤ S.tot k ∧ S.Pu k = true := by
  have h1 := (h.refs y k).2 hR
  have hk := h.cl y k h1
  have hy : y ∈ hs := by
    refine (h.G.mem y).2 ?_
    cases hx : S.ob y with
    | none => rw [refsA_none hx] at h1; cases h1
    | some x => exact ⟨x, rfl⟩
  have h2 : (refsA S y).count k ≤ cntR S hs k := sumN_le (fun y => (refsA S y).count k) hy
  have h3 := List.count_pos_iff.2 h1
  have h4 := h.G.cnt k hk
  exact ⟨by omega, h.G.pu1 k hk (by omega)⟩
/-- Round a ring. -/
theorem round_all {n : Nat} {P : Nat → Prop} (hstep : ∀ j, j < n → P j → P ((j + 1) % n)) {a : Nat} (ha : a < n) (h0 : P a) : ∀ j, j < n → P j := by
  have h1 : ∀ d, P ((a + d) % n) := fun d => by
    induction d with
    | zero => rw [Nat.add_zero, Nat.mod_eq_of_lt ha]; exact h0
    | succ d ih =>
      have h2 := hstep _ (Nat.mod_lt (a + d) (by omega)) ih
      have e : ((a + d) % n + 1) % n = (a + (d + 1)) % n := by
        rw [← Nat.add_assoc, Nat.add_mod ((a + d) % n) 1 n, Nat.mod_mod, ← Nat.add_mod]
      rw [e] at h2; exact h2
  intro j hj
  have h2 := h1 (n - a + j)
  have e : (a + (n - a + j)) % n = j := by
    rw [show a + (n - a + j) = j + n by omega, Nat.add_mod_right, Nat.mod_eq_of_lt hj]
  rw [e] at h2; exact h2
end Go.Proofs.YtlpklloagaccoaaGreat
namespace Go.Proofs.YtlpklloagaccoaaGreat
open Go.RowKit
set_option linter.unusedVariables false

def RgAt (o : Own) (w : World) (p N c n : Nat) (hs : List Int) (lim : Int) (T : Nat) (K : Int → Nat) (F : Int → Nat → Prop) (R : Int → Int → Prop) (W : Int → Bool) (pl : List Int) : Prop :=
  ∃ S, EngRep o w 1 p S ∧ RgS S hs lim T K F R W pl ∧ AlN S.L N c n
theorem RgAt.keep {lo hi : Nat} {o o' : Own} {w w' : World} {p N c n : Nat} {hs : List Int} {lim : Int} {T : Nat} {K : Int → Nat} {F : Int → Nat → Prop} {R : Int → Int → Prop} {W : Int → Bool} {pl : List Int} (h : RgAt o w p N c n hs lim T K F R W pl) (k : Fr lo hi o o' w w') (hr : 30 ≤ lo ∨ hi ≤ 1) : RgAt o' w' p N c n hs lim T K F R W pl :=
  let ⟨S, E, M⟩ := h; ⟨S, E.keep k (by omega), M⟩
theorem RgAt.congr {o : Own} {w : World} {p N c n : Nat} {hs : List Int} {lim : Int} {T T' : Nat} {K : Int → Nat} {F F' : Int → Nat → Prop} {R R' : Int → Int → Prop} {W : Int → Bool} {pl : List Int} (h : RgAt o w p N c n hs lim T K F R W pl) (hT : T ≤ T') (hF : ∀ k q, k ∈ hs → F' k q → F k q) (hR : ∀ y k, R y k ↔ R' y k) : RgAt o w p N c n hs lim T' K F' R' W pl :=
  let ⟨S, E, M, A⟩ := h; ⟨S, E, M.congr hT hF hR, A⟩
section
variable {o : Own} {p N c n : Nat} {hs : List Int} {lim : Int} {T : Nat} {K : Int → Nat} {F : Int → Nat → Prop} {R : Int → Int → Prop} {W : Int → Bool} {pl : List Int}
theorem rg_first {w : World} (E : EngRep o w 1 p (newEng N lim)) (hc : c < 5) (K : Int → Nat) : RgAt o w p N c 0 [] lim 0 K (fun _ _ => True) (fun _ _ => False) (fun _ => false) [] := ⟨_, E, RgS.first N lim K, AlN.new N hc⟩
theorem rg_make (kind cells : Nat) (ki ci : Int) (ek : ki = kind) (ec : ci = cells) (w0 w1 : World) (G : Fr 0 0 o o w0 w1) (A : RgAt o w0 p N c n hs lim T K F R W pl) (hk : 1 ≤ kind ∧ kind < 8) (hcl : cells ≤ 4000) (hc : c < 5) (hw : classN (wordsN cells 0) = c) (hroom : 2 + n / perN c ≤ N) (hK : K (hI c n) = cells) :
    Calls Tryz.prog 66 #[.pointer (some ⟨p, 0, none⟩), .int .i64 ki, .int .i64 ci, .int .i64 0] w1 fun e w' => ∃ o', e = .returned (.tuple #[.int .i64 (hI c n), .int .i64 0]) ∧ Fr 1 30 o o' w0 w' ∧ RgAt o' w' p N c (n + 1) (hs ++ [hI c n]) lim T K F R W pl := by
  obtain ⟨S, E, M, al⟩ := A
  obtain ⟨L', hT, hA⟩ := al.step (m := wordsN cells 0) hc hw hroom
  refine (rmake kind cells 0 ki ci 0 ek ec rfl L' _ w1 G.fresh (E.keep G (.inr (Nat.zero_le _))) al.ok (by omega) (by omega) (by omega) hT).mono fun e w' hh => ?_
  obtain ⟨⟨h1, o', F', E'⟩, h2, _, h4, h5, h6⟩ := hh
  exact ⟨o', h1, (G.none 1 30).trans F', _, E', M.make (by omega) h2 hK, hA⟩
theorem rg_set {y m : Int} (i : Nat) (ii : Int) (ei : ii = i) (w0 w1 : World) (G : Fr 0 0 o o w0 w1) (A : RgAt o w0 p N c n hs lim T K F R W pl) (hy : y ∈ hs) (hi : i < K y) (hF : F y i) (hm : m ∈ hs) (hT : (T : Int) + 1 < lim) (h64 : in64 m) :
    Calls Tryz.prog 68 #[.pointer (some ⟨p, 0, none⟩), .int .i64 y, .int .i64 ii, .agg #[.int .i64 3, .int .i64 m]] w1 fun e w' => ∃ o', e = .returned (.int .i64 0) ∧ Fr 1 30 o o' w0 w' ∧ RgAt o' w' p N c n hs lim (T + 1) K (fun k q => F k q ∧ ¬ (k = y ∧ q = i)) (fun u k => R u k ∨ (u = y ∧ k = m)) W pl := by
  obtain ⟨S, E, M, al⟩ := A
  obtain ⟨x, hx, hc, hf⟩ := M.obj y hy
  refine (rset y ii x i 3 m w1 (by omega) G.fresh (E.keep G (.inr (Nat.zero_le _))) hx ei (by omega) (by omega) h64 (fun _ => (M.G.mem m).1 hm) (fun _ e => absurd e (hf i hF))).mono fun e w' hh => ?_
  obtain ⟨h3, o', F', E'⟩ := hh
  obtain ⟨M', _, hL⟩ := M.set hy hi hF hm hT hx
  exact ⟨o', h3, (G.none 1 30).trans F', _, E', M', by rw [hL]; exact al⟩
end
end Go.Proofs.YtlpklloagaccoaaGreat
