/- Engines whose counts tell how many cells refer to each object: how they are made, set, and freed of. Plain Lean. No condition. Objects that go: what it does to counts. Plain Lean. No condition. What a drain does, step by step, where at most one object waits for its turn. Plain Lean. -/
import Derived.Test.YtlpklloagaccoaaGreatRefs
import Derived.Test.YtlpklloagaccoaaGreatTells
import Derived.Test.YtlpklloagaccoaaGreatEngNew
namespace Go.Proofs.YtlpklloagaccoaaGreat
open Go.RowKit
set_option linter.unusedVariables false

/-! ### sums over handles -/
def sumN (f : Int → Nat) : List Int → Nat
  | [] => 0
  | y :: l => f y + sumN f l
theorem sumN_append (f : Int → Nat) : ∀ (l m : List Int), sumN f (l ++ m) = sumN f l + sumN f m
  | [], m => by simp [sumN]
  | y :: l, m => by
    show f y + sumN f (l ++ m) = f y + sumN f l + sumN f m
    rw [sumN_append f l m]; omega
theorem sumN_congr {f g : Int → Nat} : ∀ (l : List Int), (∀ y ∈ l, f y = g y) → sumN f l = sumN g l
  | [], _ => rfl
  | y :: l, h => by
    show f y + sumN f l = g y + sumN g l
    rw [h y (by simp), sumN_congr l fun z hz => h z (by simp [hz])]
theorem sumN_upd {f g : Int → Nat} {h : Int} : ∀ (l : List Int), l.Nodup → h ∈ l → (∀ y, y ≠ h → g y = f y) → sumN g l + f h = sumN f l + g h
  | [], _, hm, _ => by cases hm
  | y :: l, nd, hm, e => by
    show g y + sumN g l + f h = f y + sumN f l + g h
    obtain ⟨n1, n2⟩ := List.nodup_cons.1 nd
    by_cases hy : y = h
    · subst hy
      rw [sumN_congr (f := g) (g := f) l fun z hz => e z fun ez => n1 (by rw [← ez]; exact hz)]
      omega
    · have := sumN_upd (f := f) (g := g) l n2 (by
        simp only [List.mem_cons] at hm
        rcases hm with hm | hm
        · exact absurd hm.symm hy
        · exact hm) e
      rw [e y hy]; omega
theorem sumN_erase (f : Int → Nat) {h : Int} : ∀ (l : List Int), h ∈ l → sumN f (l.erase h) + f h = sumN f l
  | [], hm => by cases hm
  | y :: l, hm => by
    by_cases hy : y = h
    · subst hy
      rw [List.erase_cons_head]
      show sumN f l + f y = f y + sumN f l
      omega
    · rw [List.erase_cons_tail (by simpa using hy)]
      have := sumN_erase f l (by
        simp only [List.mem_cons] at hm
        rcases hm with hm | hm
        · exact absurd hm.symm hy
        · exact hm)
      show f y + sumN f (l.erase h) + f h = f y + sumN f l
      omega
theorem sumN_le (f : Int → Nat) {h : Int} {l : List Int} (hm : h ∈ l) : f h ≤ sumN f l := by
  have := sumN_erase f l hm; omega
theorem sumN_zero {f : Int → Nat} : ∀ {l : List Int}, (∀ y ∈ l, f y = 0) → sumN f l = 0
  | [], _ => rfl
  | y :: l, h => by
    show f y + sumN f l = 0
    rw [h y (by simp), sumN_zero fun z hz => h z (by simp [hz])]
/-! ### references -/
theorem refsN_count_upd (f : Nat → Nat × Int) (i q : Nat) (n k : Int) : ∀ c, (refsN (updF f i (q, n)) c).count k + (if i < c ∧ (f i).1 = 3 ∧ (f i).2 = k then 1 else 0) = (refsN f c).count k + (if i < c ∧ q = 3 ∧ n = k then 1 else 0)
  | 0 => by rw [if_neg (by omega), if_neg (by omega)]; rfl
  | c + 1 => by
    have ih := refsN_count_upd f i q n k c
    show (refsN (updF f i (q, n)) c ++ (if (updF f i (q, n) c).1 = 3 then [(updF f i (q, n) c).2] else [])).count k + _ = (refsN f c ++ (if (f c).1 = 3 then [(f c).2] else [])).count k + _
    rw [List.count_append, List.count_append]
    by_cases e : c = i
    · subst e
      have h1 : updF f c (q, n) c = (q, n) := if_pos rfl
      rw [h1]
      simp only [Nat.lt_irrefl, false_and, if_false, Nat.add_zero] at ih
      have hlt : c < c + 1 := by omega
      simp only [hlt, true_and]
      rw [ih]
      have one : ∀ (p : Prop) [Decidable p] (m : Int), (if p then [m] else []).count k = if p ∧ m = k then 1 else 0 := fun p _ m => by
        by_cases hp : p <;> by_cases hm : m = k <;> simp [hp, hm]
      rw [one, one]
      omega
    · have h1 : updF f i (q, n) c = f c := if_neg e
      rw [h1]
      by_cases hi : i < c
      · have h2 : i < c + 1 := by omega
        simp only [hi, h2, true_and] at ih ⊢
        omega
      · have h2 : ¬ i < c + 1 := by omega
        simp only [hi, h2, false_and, if_false] at ih ⊢
        omega
theorem refsN_none {f : Nat → Nat × Int} (h : ∀ i, (f i).1 ≠ 3) : ∀ c, refsN f c = []
  | 0 => rfl
  | c + 1 => by
    show refsN f c ++ _ = []
    rw [refsN_none h c, if_neg (h c)]; rfl
theorem refsA_of {S : EngS} {h : Int} {x : Ob} (hw : S.weak h = false) (hx : S.ob h = some x) : refsA S h = refsN x.val x.cells := by
  unfold refsA; rw [if_neg (by rw [hw]; decide), hx]
theorem refsA_none {S : EngS} {h : Int} (hx : S.ob h = none) : refsA S h = [] := by
  unfold refsA; rw [hx]; split <;> rfl
theorem refsA_congr {S T : EngS} {h : Int} (hw : T.weak h = S.weak h) (hx : T.ob h = S.ob h) : refsA T h = refsA S h := by
  unfold refsA; rw [hw, hx]
def cntR (S : EngS) (hs : List Int) (k : Int) : Nat := sumN (fun y => (refsA S y).count k) hs
/-- Counts tell how many cells refer to each object; zeros are those without; purple are those with, and some without. -/
structure Gd (S : EngS) (hs : List Int) : Prop where
  nodup : hs.Nodup
  mem : ∀ k, k ∈ hs ↔ ∃ x, S.ob k = some x
  weak : ∀ k, S.weak k = false
  st : ∀ k, S.st k = false
  cnt : ∀ k, k ∈ hs → S.tot k = (cntR S hs k : Nat)
  zero : ∀ k, S.Z k = true ↔ k ∈ hs ∧ S.tot k = 0
  pu1 : ∀ k, k ∈ hs → S.tot k ≠ 0 → S.Pu k = true
  pu2 : ∀ k, S.Pu k = true → k ∈ hs
  low : ∀ k, k ∉ hs → S.tot k = 0
/-- All references are to objects. -/
def Cl (S : EngS) (hs : List Int) : Prop := ∀ y k, k ∈ refsA S y → k ∈ hs
theorem Cl.cnt {S : EngS} {hs : List Int} (h : Cl S hs) {k : Int} (hk : k ∉ hs) : cntR S hs k = 0 :=
  sumN_zero fun y _ => List.count_eq_zero.2 fun hm => hk (h y k hm)
theorem Cl.first (n : Nat) (lim : Int) : Cl (newEng n lim) [] := fun y k h => by
  have : refsA (newEng n lim) y = [] := refsA_none rfl
  rw [this] at h; cases h
theorem Gd.first (n : Nat) (lim : Int) : Gd (newEng n lim) [] :=
  ⟨List.nodup_nil, fun k => ⟨fun h => (by cases h), fun ⟨x, h⟩ => (by cases h)⟩, fun _ => rfl, fun _ => rfl, fun k h => (by cases h), fun k => ⟨fun h => (by cases h), fun h => (by cases h.1)⟩, fun k h => (by cases h), fun k h => (by cases h), fun _ _ => rfl⟩
theorem Gd.ge0 {S : EngS} {hs : List Int} (G : Gd S hs) {k : Int} (hk : k ∈ hs) : 0 ≤ S.tot k := by rw [G.cnt k hk]; omega
/-! ### one more object -/
theorem Gd.make {S : EngS} {hs : List Int} (G : Gd S hs) {L' : Al} {a kind cells raw : Nat} (hk : kind ≠ 8) (hna : (a : Int) ∉ hs) (hcl : Cl S hs) :
    Gd (makeA S L' a kind cells raw) (hs ++ [(a : Int)]) ∧ Cl (makeA S L' a kind cells raw) (hs ++ [(a : Int)]) ∧ (∀ y, refsA (makeA S L' a kind cells raw) y = refsA S y) := by
  have ht := G.low _ hna
  have hd := hcl.cnt hna
  have hno : S.ob (a : Int) = none := by
    cases h : S.ob (a : Int) with
    | none => rfl
    | some x => exact absurd ((G.mem _).2 ⟨x, h⟩) hna
  have hw : ∀ k, (makeA S L' a kind cells raw).weak k = false := fun k => by
    show (if kind = 8 then _ else S.weak) k = false
    rw [if_neg hk]; exact G.weak k
  have hob : ∀ k, k ≠ (a : Int) → (makeA S L' a kind cells raw).ob k = S.ob k := fun k h => if_neg h
  have hoa : (makeA S L' a kind cells raw).ob (a : Int) = some (newOb kind cells raw) := if_pos rfl
  have hr : ∀ y, y ≠ (a : Int) → refsA (makeA S L' a kind cells raw) y = refsA S y := fun y h => refsA_congr ((hw y).trans (G.weak y).symm) (hob y h)
  have hra : refsA (makeA S L' a kind cells raw) (a : Int) = [] := by
    rw [refsA_of (hw _) hoa]; exact refsN_none (fun i h => by cases h) _
  have hc : ∀ k, cntR (makeA S L' a kind cells raw) (hs ++ [(a : Int)]) k = cntR S hs k := fun k => by
    unfold cntR
    rw [sumN_append, sumN_congr hs (g := fun y => (refsA S y).count k) fun y hy => by
      show (refsA (makeA S L' a kind cells raw) y).count k = _
      rw [hr y (fun e => hna (by rw [← e]; exact hy))]]
    show sumN _ hs + ((refsA (makeA S L' a kind cells raw) (a : Int)).count k + 0) = _
    rw [hra]; rfl
  have hm : ∀ k, k ∈ hs ++ [(a : Int)] ↔ k ∈ hs ∨ k = (a : Int) := fun k => by simp
  have hry : ∀ y, refsA (makeA S L' a kind cells raw) y = refsA S y := fun y => by
    by_cases e : y = (a : Int)
    · rw [e, hra, refsA_none hno]
    · exact hr y e
  refine ⟨⟨?_, fun k => ?_, hw, G.st, fun k hk => ?_, fun k => ?_, fun k hk h0 => ?_, fun k hk => ?_, fun k hk => ?_⟩, fun y k hk => ?_, hry⟩
  · refine List.nodup_append.2 ⟨G.nodup, by simp, fun x hx y hy e => ?_⟩
    simp only [List.mem_singleton] at hy
    subst hy; subst e; exact hna hx
  · rw [hm]
    by_cases e : k = (a : Int)
    · subst e; exact ⟨fun _ => ⟨_, hoa⟩, fun _ => .inr rfl⟩
    · rw [hob k e, ← G.mem k]
      exact ⟨fun h => h.resolve_right e, .inl⟩
  · rw [hc]
    rcases (hm k).1 hk with h | h
    · exact G.cnt k h
    · subst h; show S.tot (a : Int) = _; rw [ht, hd]; rfl
  · show updS S.Z (a : Int) true k = true ↔ _ ∧ S.tot k = 0
    unfold updS
    rw [hm]
    by_cases e : k = (a : Int)
    · subst e; rw [if_pos rfl]; exact ⟨fun _ => ⟨.inr rfl, ht⟩, fun _ => rfl⟩
    · rw [if_neg e, G.zero k]
      exact ⟨fun h => ⟨.inl h.1, h.2⟩, fun h => ⟨h.1.resolve_right e, h.2⟩⟩
  · rcases (hm k).1 hk with h | h
    · exact G.pu1 k h h0
    · subst h; exact absurd ht h0
  · exact (hm k).2 (.inl (G.pu2 k hk))
  · exact G.low k fun h => hk ((hm k).2 (.inl h))
  · rw [hry] at hk; exact (hm k).2 (.inl (hcl y k hk))
/-! ### a cell is set that held no reference -/
theorem Gd.set {S : EngS} {hs : List Int} (G : Gd S hs) {h : Int} {x : Ob} (hx : S.ob h = some x) {i : Nat} (hi : i < x.cells) (hold : (x.val i).1 ≠ 3) {n : Int} (hn : n ∈ hs) (hl : S.tot n + 1 < S.lim) :
    Gd (setA S h x i 3 n) hs ∧ (setA S h x i 3 n).ob = updI S.ob h (some (setVal x i (3, n))) ∧ (∀ y, y ≠ h → refsA (setA S h x i 3 n) y = refsA S y) ∧ refsA (setA S h x i 3 n) h = refsN (updF x.val i (3, n)) x.cells ∧ (∀ k, (setA S h x i 3 n).tot k = S.tot k + if n = k then 1 else 0) ∧ (setA S h x i 3 n).lim = S.lim ∧ (setA S h x i 3 n).wat = S.wat ∧ (setA S h x i 3 n).pend = S.pend ∧ (setA S h x i 3 n).L = S.L := by
  have e : setA S h x i 3 n = upA (wrA S h x i 3 n) n := by
    unfold setA
    rw [if_neg (by rw [G.weak]; decide), if_neg hold, if_pos rfl]
  have hh : h ∈ hs := (G.mem h).2 ⟨x, hx⟩
  have hge := G.ge0 hn
  rw [e]
  have hst : ∀ k, (upA (wrA S h x i 3 n) n).st k = false := fun k => by
    show updB S.st n (S.st n || decide (S.lim ≤ S.tot n + 1)) k = false
    unfold updB
    by_cases ek : k = n
    · rw [if_pos ek, G.st, Bool.false_or]; exact decide_eq_false (by omega)
    · rw [if_neg ek]; exact G.st k
  have htot : ∀ k, (upA (wrA S h x i 3 n) n).tot k = S.tot k + if n = k then 1 else 0 := fun k => by
    show updI S.tot n (if S.st n then S.tot n else S.tot n + 1) k = _
    unfold updI
    by_cases ek : k = n
    · subst ek; rw [if_pos rfl, if_pos rfl, if_neg (by rw [G.st]; decide)]
    · rw [if_neg ek, if_neg (fun z => ek z.symm)]; omega
  have hob : (upA (wrA S h x i 3 n) n).ob = updI S.ob h (some (setVal x i (3, n))) := rfl
  have hw : ∀ k, (upA (wrA S h x i 3 n) n).weak k = false := G.weak
  have hr : ∀ y, y ≠ h → refsA (upA (wrA S h x i 3 n) n) y = refsA S y := fun y hy => refsA_congr rfl (by rw [hob]; exact if_neg hy)
  have hrh : refsA (upA (wrA S h x i 3 n) n) h = refsN (updF x.val i (3, n)) x.cells := by
    rw [refsA_of (hw h) (x := setVal x i (3, n)) (by rw [hob]; exact if_pos rfl)]; rfl
  have hc : ∀ k, cntR (upA (wrA S h x i 3 n) n) hs k = cntR S hs k + if n = k then 1 else 0 := fun k => by
    have h1 := sumN_upd (f := fun y => (refsA S y).count k) (g := fun y => (refsA (upA (wrA S h x i 3 n) n) y).count k) hs G.nodup hh (fun y hy => by show (refsA _ y).count k = _; rw [hr y hy])
    have h2 := refsN_count_upd x.val i 3 n k x.cells
    rw [if_neg (fun z => hold z.2.1)] at h2
    simp only [hi, true_and] at h2
    simp only [hrh, refsA_of (G.weak h) hx] at h1
    unfold cntR
    omega
  refine ⟨⟨G.nodup, fun k => ?_, hw, hst, fun k hk => ?_, fun k => ?_, fun k hk h0 => ?_, fun k hk => ?_, fun k hk => ?_⟩, hob, hr, hrh, htot, rfl, rfl, rfl, rfl⟩
  · rw [hob]
    unfold updI
    by_cases ek : k = h
    · rw [if_pos ek, ek]; exact ⟨fun _ => ⟨_, rfl⟩, fun _ => hh⟩
    · rw [if_neg ek]; exact G.mem k
  · rw [htot, hc, G.cnt k hk]
    by_cases ek : n = k
    · rw [if_pos ek, if_pos ek]; omega
    · rw [if_neg ek, if_neg ek]; omega
  · rw [htot]
    show (if S.tot n = 0 then updS S.Z n false else S.Z) k = true ↔ _
    have hz := G.zero k
    by_cases ek : n = k
    · subst ek
      rw [if_pos rfl]
      have : ¬ (S.tot n + 1 = 0) := by omega
      by_cases h0 : S.tot n = 0
      · rw [if_pos h0]
        unfold updS
        rw [if_pos rfl]
        exact ⟨fun h => (by cases h), fun h => absurd h.2 this⟩
      · rw [if_neg h0, hz]
        exact ⟨fun h => absurd h.2 h0, fun h => absurd h.2 this⟩
    · rw [if_neg ek, Int.add_zero, ← hz]
      by_cases h0 : S.tot n = 0
      · rw [if_pos h0]
        unfold updS
        rw [if_neg (fun z => ek z.symm)]
      · rw [if_neg h0]
  · rw [htot] at h0
    show (if S.tot n = 0 then updS S.Pu n true else S.Pu) k = true
    by_cases ek : n = k
    · subst ek
      by_cases h1 : S.tot n = 0
      · rw [if_pos h1]; exact if_pos rfl
      · rw [if_neg h1]; exact G.pu1 n hk h1
    · rw [if_neg ek, Int.add_zero] at h0
      by_cases h1 : S.tot n = 0
      · rw [if_pos h1]
        unfold updS
        rw [if_neg (fun z => ek z.symm)]; exact G.pu1 k hk h0
      · rw [if_neg h1]; exact G.pu1 k hk h0
  · have hk' : (if S.tot n = 0 then updS S.Pu n true else S.Pu) k = true := hk
    by_cases h1 : S.tot n = 0
    · rw [if_pos h1] at hk'
      unfold updS at hk'
      by_cases ek : k = n
      · rw [ek]; exact hn
      · rw [if_neg ek] at hk'; exact G.pu2 k hk'
    · rw [if_neg h1] at hk'; exact G.pu2 k hk'
  · rw [htot, if_neg (fun e => hk (by rw [← e]; exact hn)), Int.add_zero]; exact G.low k hk
theorem mem_refsN_upd {f : Nat → Nat × Int} {i q c : Nat} {n k : Int} (h : k ∈ refsN (updF f i (q, n)) c) : k ∈ refsN f c ∨ n = k := by
  have h1 := refsN_count_upd f i q n k c
  have h2 := List.count_pos_iff.2 h
  by_cases e : n = k
  · exact .inr e
  · left
    have h3 : ¬ (i < c ∧ q = 3 ∧ n = k) := fun z => e z.2.2
    rw [if_neg h3] at h1
    exact List.count_pos_iff.1 (by omega)
theorem Cl.set {S : EngS} {hs : List Int} (hcl : Cl S hs) {h : Int} {x : Ob} (hw : S.weak h = false) (hx : S.ob h = some x) {i q : Nat} {n : Int} {T : EngS} (h1 : ∀ y, y ≠ h → refsA T y = refsA S y) (h2 : refsA T h = refsN (updF x.val i (q, n)) x.cells) (hn : n ∈ hs) : Cl T hs := fun y k hk => by
  by_cases e : y = h
  · subst e
    rw [h2] at hk
    rcases mem_refsN_upd hk with h | h
    · exact hcl y k (by rw [refsA_of hw hx]; exact h)
    · rw [← h]; exact hn
  · rw [h1 y e] at hk; exact hcl y k hk
/-! ### a cell is set that held another reference -/
structure Rz (S : EngS) (hs : List Int) : Prop where
  st : ∀ k, S.st k = false
  zero : ∀ k, S.Z k = true ↔ k ∈ hs ∧ S.tot k = 0
  pu1 : ∀ k, k ∈ hs → S.tot k ≠ 0 → S.Pu k = true
  pu2 : ∀ k, S.Pu k = true → k ∈ hs
  ge0 : ∀ k, k ∈ hs → 0 ≤ S.tot k
theorem Rz.up {S : EngS} {hs : List Int} (R : Rz S hs) {n : Int} (hn : n ∈ hs) (hl : S.tot n + 1 < S.lim) : Rz (upA S n) hs ∧ ∀ k, (upA S n).tot k = S.tot k + if n = k then 1 else 0 := by
  have hge := R.ge0 n hn
  have htot : ∀ k, (upA S n).tot k = S.tot k + if n = k then 1 else 0 := fun k => by
    show updI S.tot n (if S.st n then S.tot n else S.tot n + 1) k = _
    unfold updI
    by_cases ek : k = n
    · subst ek; rw [if_pos rfl, if_pos rfl, if_neg (by rw [R.st]; decide)]
    · rw [if_neg ek, if_neg (fun z => ek z.symm)]; omega
  refine ⟨⟨fun k => ?_, fun k => ?_, fun k hk h0 => ?_, fun k hk => ?_, fun k hk => ?_⟩, htot⟩
  · show updB S.st n (S.st n || decide (S.lim ≤ S.tot n + 1)) k = false
    unfold updB
    by_cases ek : k = n
    · rw [if_pos ek, R.st, Bool.false_or]; exact decide_eq_false (by omega)
    · rw [if_neg ek]; exact R.st k
  · rw [htot]
    show (if S.tot n = 0 then updS S.Z n false else S.Z) k = true ↔ _
    have hz := R.zero k
    by_cases ek : n = k
    · subst ek
      rw [if_pos rfl]
      have : ¬ (S.tot n + 1 = 0) := by omega
      by_cases h0 : S.tot n = 0
      · rw [if_pos h0]
        unfold updS
        rw [if_pos rfl]
        exact ⟨fun h => (by cases h), fun h => absurd h.2 this⟩
      · rw [if_neg h0, hz]
        exact ⟨fun h => absurd h.2 h0, fun h => absurd h.2 this⟩
    · rw [if_neg ek, Int.add_zero, ← hz]
      by_cases h0 : S.tot n = 0
      · rw [if_pos h0]
        unfold updS
        rw [if_neg (fun z => ek z.symm)]
      · rw [if_neg h0]
  · rw [htot] at h0
    show (if S.tot n = 0 then updS S.Pu n true else S.Pu) k = true
    by_cases ek : n = k
    · subst ek
      by_cases h1 : S.tot n = 0
      · rw [if_pos h1]; exact if_pos rfl
      · rw [if_neg h1]; exact R.pu1 n hk h1
    · rw [if_neg ek, Int.add_zero] at h0
      by_cases h1 : S.tot n = 0
      · rw [if_pos h1]
        unfold updS
        rw [if_neg (fun z => ek z.symm)]; exact R.pu1 k hk h0
      · rw [if_neg h1]; exact R.pu1 k hk h0
  · have hk' : (if S.tot n = 0 then updS S.Pu n true else S.Pu) k = true := hk
    by_cases h1 : S.tot n = 0
    · rw [if_pos h1] at hk'
      unfold updS at hk'
      by_cases ek : k = n
      · rw [ek]; exact hn
      · rw [if_neg ek] at hk'; exact R.pu2 k hk'
    · rw [if_neg h1] at hk'; exact R.pu2 k hk'
  · rw [htot]
    have := R.ge0 k hk
    split <;> omega
theorem Rz.down {S : EngS} {hs : List Int} (R : Rz S hs) {x : Int} (hx : x ∈ hs) (h1 : 1 ≤ S.tot x) : Rz (downA S x) hs ∧ ∀ k, (downA S x).tot k = S.tot k - if x = k then 1 else 0 := by
  have htot : ∀ k, (downA S x).tot k = S.tot k - if x = k then 1 else 0 := fun k => by
    show updI S.tot x (if S.st x then S.tot x else if S.tot x = 0 then 0 else S.tot x - 1) k = _
    unfold updI
    by_cases ek : k = x
    · subst ek; rw [if_pos rfl, if_neg (by rw [R.st]; decide), if_neg (by omega), if_pos rfl]
    · rw [if_neg ek, if_neg (fun z => ek z.symm)]; omega
  refine ⟨⟨R.st, fun k => ?_, fun k hk h0 => ?_, fun k hk => ?_, fun k hk => ?_⟩, htot⟩
  · rw [htot]
    show (if S.st x = false ∧ S.tot x ≤ 1 then updS S.Z x true else S.Z) k = true ↔ _
    have hz := R.zero k
    by_cases ek : x = k
    · subst ek
      rw [if_pos rfl]
      by_cases h2 : S.tot x ≤ 1
      · rw [if_pos ⟨R.st x, h2⟩]
        unfold updS
        rw [if_pos rfl]
        exact ⟨fun _ => ⟨hx, by omega⟩, fun _ => rfl⟩
      · rw [if_neg (fun z => h2 z.2), hz]
        exact ⟨fun z => (by have := z.2; omega), fun z => (by have := z.2; omega)⟩
    · rw [if_neg ek, Int.sub_zero, ← hz]
      by_cases h2 : S.st x = false ∧ S.tot x ≤ 1
      · rw [if_pos h2]
        unfold updS
        rw [if_neg (fun z => ek z.symm)]
      · rw [if_neg h2]
  · show (if S.st x = false ∧ ¬ S.tot x ≤ 1 then updS S.Pu x true else S.Pu) k = true
    rw [htot] at h0
    by_cases ek : x = k
    · subst ek
      rw [if_pos rfl] at h0
      rw [if_pos ⟨R.st x, by omega⟩]
      exact if_pos rfl
    · rw [if_neg ek, Int.sub_zero] at h0
      by_cases h2 : S.st x = false ∧ ¬ S.tot x ≤ 1
      · rw [if_pos h2]
        unfold updS
        rw [if_neg (fun z => ek z.symm)]; exact R.pu1 k hk h0
      · rw [if_neg h2]; exact R.pu1 k hk h0
  · have hp' : (if S.st x = false ∧ ¬ S.tot x ≤ 1 then updS S.Pu x true else S.Pu) k = true := hk
    by_cases h2 : S.st x = false ∧ ¬ S.tot x ≤ 1
    · rw [if_pos h2] at hp'
      unfold updS at hp'
      by_cases ek : k = x
      · rw [ek]; exact hx
      · rw [if_neg ek] at hp'; exact R.pu2 k hp'
    · rw [if_neg h2] at hp'; exact R.pu2 k hp'
  · rw [htot]
    have := R.ge0 k hk
    by_cases ek : x = k
    · subst ek; rw [if_pos rfl]; omega
    · rw [if_neg ek]; omega
theorem Gd.rz {S : EngS} {hs : List Int} (G : Gd S hs) : Rz S hs := ⟨G.st, G.zero, G.pu1, G.pu2, fun k hk => G.ge0 hk⟩
theorem Gd.reset {S : EngS} {hs : List Int} (G : Gd S hs) {h : Int} {x : Ob} (hx : S.ob h = some x) {i : Nat} (hi : i < x.cells) {m : Int} (hold : x.val i = (3, m)) (hm : m ∈ hs) {n : Int} (hn : n ∈ hs) (hl : S.tot n + 1 < S.lim) :
    Gd (setA S h x i 3 n) hs ∧ (setA S h x i 3 n).ob = updI S.ob h (some (setVal x i (3, n))) ∧ (∀ y, y ≠ h → refsA (setA S h x i 3 n) y = refsA S y) ∧ refsA (setA S h x i 3 n) h = refsN (updF x.val i (3, n)) x.cells ∧ (∀ k, (setA S h x i 3 n).tot k = S.tot k + (if n = k then 1 else 0) - if m = k then 1 else 0) ∧ (setA S h x i 3 n).pend = S.pend := by
  have e : setA S h x i 3 n = downA (upA (wrA S h x i 3 n) n) m := by
    unfold setA
    rw [if_neg (by rw [G.weak]; decide), hold, if_pos rfl, if_pos rfl]
  have hh : h ∈ hs := (G.mem h).2 ⟨x, hx⟩
  have R0 : Rz (wrA S h x i 3 n) hs := ⟨G.st, G.zero, G.pu1, G.pu2, fun k hk => G.ge0 hk⟩
  obtain ⟨R1, t1⟩ := R0.up hn hl
  have hmc : 1 ≤ S.tot m := by
    rw [G.cnt m hm]
    have h1 : (refsA S h).count m ≤ cntR S hs m := sumN_le (fun y => (refsA S y).count m) hh
    have h2 := refsN_count_upd x.val i 0 0 m x.cells
    rw [hold, if_pos ⟨hi, rfl, rfl⟩] at h2
    rw [refsA_of (G.weak h) hx] at h1
    have h3 : ¬ (i < x.cells ∧ (0 : Nat) = 3 ∧ (0 : Int) = m) := fun z => by cases z.2.1
    rw [if_neg h3] at h2
    omega
  have hm1 : 1 ≤ (upA (wrA S h x i 3 n) n).tot m := by
    rw [t1]
    have : (wrA S h x i 3 n).tot m = S.tot m := rfl
    rw [this]
    split <;> omega
  obtain ⟨R2, t2⟩ := R1.down hm hm1
  have htot : ∀ k, (downA (upA (wrA S h x i 3 n) n) m).tot k = S.tot k + (if n = k then 1 else 0) - if m = k then 1 else 0 := fun k => by rw [t2, t1]; rfl
  rw [e]
  have hob : (downA (upA (wrA S h x i 3 n) n) m).ob = updI S.ob h (some (setVal x i (3, n))) := rfl
  have hr : ∀ y, y ≠ h → refsA (downA (upA (wrA S h x i 3 n) n) m) y = refsA S y := fun y hy => refsA_congr rfl (by rw [hob]; exact if_neg hy)
  have hrh : refsA (downA (upA (wrA S h x i 3 n) n) m) h = refsN (updF x.val i (3, n)) x.cells := by
    rw [refsA_of (S := downA (upA (wrA S h x i 3 n) n) m) (G.weak h) (x := setVal x i (3, n)) (by rw [hob]; exact if_pos rfl)]; rfl
  refine ⟨⟨G.nodup, fun k => ?_, G.weak, R2.st, fun k hk => ?_, R2.zero, R2.pu1, R2.pu2, fun k hk => ?_⟩, hob, hr, hrh, htot, rfl⟩
  · rw [hob]
    unfold updI
    by_cases ek : k = h
    · rw [if_pos ek, ek]; exact ⟨fun _ => ⟨_, rfl⟩, fun _ => hh⟩
    · rw [if_neg ek]; exact G.mem k
  · rw [htot, G.cnt k hk]
    have h1 := sumN_upd (f := fun y => (refsA S y).count k) (g := fun y => (refsA (downA (upA (wrA S h x i 3 n) n) m) y).count k) hs G.nodup hh (fun y hy => by show (refsA _ y).count k = _; rw [hr y hy])
    have h2 := refsN_count_upd x.val i 3 n k x.cells
    rw [hold] at h2
    simp only [hi, true_and] at h2
    simp only [hrh, refsA_of (G.weak h) hx] at h1
    unfold cntR
    generalize (refsN (updF x.val i (3, n)) x.cells).count k = c1 at *
    generalize (refsN x.val x.cells).count k = c2 at *
    generalize sumN (fun y => (refsA (downA (upA (wrA S h x i 3 n) n) m) y).count k) hs = c3 at *
    generalize sumN (fun y => (refsA S y).count k) hs = c4 at *
    clear htot hrh hr hob t2 t1 R2 R1 R0 hm1 e
    by_cases e1 : n = k <;> by_cases e2 : m = k
    · rw [if_pos e1, if_pos e2] at *; omega
    · rw [if_pos e1, if_neg e2] at *; omega
    · rw [if_neg e1, if_pos e2] at *; omega
    · rw [if_neg e1, if_neg e2] at *; omega
  · rw [htot, if_neg (fun e => hk (by rw [← e]; exact hn)), if_neg (fun e => hk (by rw [← e]; exact hm)), G.low k hk]; rfl
end Go.Proofs.YtlpklloagaccoaaGreat
namespace Go.Proofs.YtlpklloagaccoaaGreat
open Go.RowKit
set_option linter.unusedVariables false

/-- One less; what is no object is let be. -/
def downO (S : EngS) (x : Int) : EngS := if (S.ob x).isSome = true then downA S x else S
def downsA (S : EngS) (l : List Int) : EngS := l.foldl downO S
/-- A weak object's cells that refer to what is no more. -/
def clrX (x : Ob) (h : Int) : Ob := { x with val := fun i => if i < x.cells ∧ (x.val i).1 = 3 ∧ (x.val i).2 = h then (0, 0) else x.val i }
def gone0 (S : EngS) (h : Int) : EngS := { S with L := shutL S.L, ob := updI S.ob h none }
def freeA (S : EngS) (h : Int) : EngS :=
  let T := downsA (gone0 S h) (refsA S h)
  { T with ob := (fun k => if updS S.weak h false k = true then (T.ob k).map (fun x => clrX x h) else T.ob k), weak := updS T.weak h false, Z := updS T.Z h false, Pu := updS T.Pu h false, tot := updI T.tot h 0, st := updB T.st h false, wat := updS T.wat h false, pend := T.pend.filter (fun x => !(x == h)) }
/-- What 'downs' leave. -/
structure Same (S T : EngS) : Prop where
  L : T.L = S.L
  ob : T.ob = S.ob
  lim : T.lim = S.lim
  st : T.st = S.st
  wat : T.wat = S.wat
  weak : T.weak = S.weak
  pend : T.pend = S.pend
theorem Same.refl (S : EngS) : Same S S := ⟨rfl, rfl, rfl, rfl, rfl, rfl, rfl⟩
theorem Same.trans {S T U : EngS} (h : Same S T) (k : Same T U) : Same S U := ⟨k.L.trans h.L, k.ob.trans h.ob, k.lim.trans h.lim, k.st.trans h.st, k.wat.trans h.wat, k.weak.trans h.weak, k.pend.trans h.pend⟩
theorem downO_same (S : EngS) (x : Int) : Same S (downO S x) := by
  unfold downO
  split
  · exact ⟨rfl, rfl, rfl, rfl, rfl, rfl, rfl⟩
  · exact Same.refl S
theorem downsA_same : ∀ (l : List Int) (S : EngS), Same S (downsA S l)
  | [], S => Same.refl S
  | x :: l, S => (downO_same S x).trans (downsA_same l (downO S x))
/-- Zeros, purple ones as counts have it, but for one that goes. -/
structure Ds (S : EngS) (h : Int) : Prop where
  dead : S.ob h = none
  st : ∀ k, S.st k = false
  zero : ∀ k, k ≠ h → (S.Z k = true ↔ (∃ x, S.ob k = some x) ∧ S.tot k = 0)
  pu1 : ∀ k, k ≠ h → (∃ x, S.ob k = some x) → S.tot k ≠ 0 → S.Pu k = true
  pu2 : ∀ k, k ≠ h → S.Pu k = true → ∃ x, S.ob k = some x
theorem Ds.down {S : EngS} {h x : Int} (D : Ds S h) (hx : (∃ y, S.ob x = some y) → 1 ≤ S.tot x) :
    Ds (downO S x) h ∧ ∀ k, (downO S x).tot k = S.tot k - if x = k ∧ (S.ob k).isSome = true then 1 else 0 := by
  by_cases hs : (S.ob x).isSome = true
  · have e : downO S x = downA S x := if_pos hs
    rw [e]
    obtain ⟨y, hy⟩ := Option.isSome_iff_exists.1 hs
    have h1 := hx ⟨y, hy⟩
    have hxh : x ≠ h := fun e => by rw [e, D.dead] at hy; cases hy
    have htot : ∀ k, (downA S x).tot k = S.tot k - if x = k ∧ (S.ob k).isSome = true then 1 else 0 := fun k => by
      show updI S.tot x (if S.st x then S.tot x else if S.tot x = 0 then 0 else S.tot x - 1) k = _
      unfold updI
      by_cases ek : k = x
      · subst ek; rw [if_pos rfl, if_neg (by rw [D.st]; decide), if_neg (by omega), if_pos ⟨rfl, hs⟩]
      · rw [if_neg ek, if_neg (fun z => ek z.1.symm)]; omega
    refine ⟨⟨D.dead, D.st, fun k hk => ?_, fun k hk hob h0 => ?_, fun k hk hp => ?_⟩, htot⟩
    · show (if S.st x = false ∧ S.tot x ≤ 1 then updS S.Z x true else S.Z) k = true ↔ (∃ z, S.ob k = some z) ∧ (downA S x).tot k = 0
      rw [htot]
      have hz := D.zero k hk
      by_cases ek : x = k
      · subst ek
        rw [if_pos (show x = x ∧ (S.ob x).isSome = true from ⟨rfl, hs⟩)]
        by_cases h2 : S.tot x ≤ 1
        · rw [if_pos ⟨D.st x, h2⟩]
          unfold updS
          rw [if_pos rfl]
          exact ⟨fun _ => ⟨⟨y, hy⟩, by omega⟩, fun _ => rfl⟩
        · rw [if_neg (fun z => h2 z.2), hz]
          exact ⟨fun z => (by have := z.2; omega), fun z => (by have := z.2; omega)⟩
      · rw [if_neg (fun z : x = k ∧ _ => ek z.1), Int.sub_zero, ← hz]
        by_cases h2 : S.st x = false ∧ S.tot x ≤ 1
        · rw [if_pos h2]
          unfold updS
          rw [if_neg (fun z => ek z.symm)]
        · rw [if_neg h2]
    · show (if S.st x = false ∧ ¬ S.tot x ≤ 1 then updS S.Pu x true else S.Pu) k = true
      rw [htot] at h0
      have hob' : ∃ z, S.ob k = some z := hob
      by_cases ek : x = k
      · subst ek
        rw [if_pos (show x = x ∧ (S.ob x).isSome = true from ⟨rfl, hs⟩)] at h0
        rw [if_pos ⟨D.st x, by omega⟩]
        exact if_pos rfl
      · rw [if_neg (fun z : x = k ∧ _ => ek z.1), Int.sub_zero] at h0
        by_cases h2 : S.st x = false ∧ ¬ S.tot x ≤ 1
        · rw [if_pos h2]
          unfold updS
          rw [if_neg (fun z => ek z.symm)]; exact D.pu1 k hk hob' h0
        · rw [if_neg h2]; exact D.pu1 k hk hob' h0
    · have hp' : (if S.st x = false ∧ ¬ S.tot x ≤ 1 then updS S.Pu x true else S.Pu) k = true := hp
      by_cases h2 : S.st x = false ∧ ¬ S.tot x ≤ 1
      · rw [if_pos h2] at hp'
        unfold updS at hp'
        by_cases ek : k = x
        · exact ⟨y, by rw [ek]; exact hy⟩
        · rw [if_neg ek] at hp'; exact D.pu2 k hk hp'
      · rw [if_neg h2] at hp'; exact D.pu2 k hk hp'
  · have e : downO S x = S := if_neg hs
    rw [e]
    refine ⟨D, fun k => ?_⟩
    rw [if_neg (fun z => hs (by rw [z.1]; exact z.2))]; omega
theorem Ds.downs {h : Int} : ∀ (l : List Int) (S : EngS), Ds S h → (∀ k, (∃ y, S.ob k = some y) → (l.count k : Int) ≤ S.tot k) →
    Ds (downsA S l) h ∧ ∀ k, (downsA S l).tot k = S.tot k - if (S.ob k).isSome = true then (l.count k : Int) else 0
  | [], S, D, _ => ⟨D, fun k => by show S.tot k = S.tot k - _; simp⟩
  | x :: l, S, D, hl => by
    have h1 : (∃ y, S.ob x = some y) → 1 ≤ S.tot x := fun hy => by
      have := hl x hy
      rw [List.count_cons_self] at this
      omega
    obtain ⟨D1, t1⟩ := D.down h1
    have hob : (downO S x).ob = S.ob := (downO_same S x).ob
    obtain ⟨D2, t2⟩ := Ds.downs l (downO S x) D1 (fun k hk => by
      rw [hob] at hk
      have h2 := hl k hk
      rw [t1 k, List.count_cons] at *
      obtain ⟨y, hy⟩ := hk
      by_cases e : x = k
      · subst e
        rw [if_pos ⟨rfl, by rw [hy]; rfl⟩]
        simp only [beq_self_eq_true, if_true] at h2
        omega
      · rw [if_neg (fun z => e z.1)]
        have : (x == k) = false := by simpa using e
        simp only [this, Bool.false_eq_true, if_false] at h2
        omega)
    refine ⟨D2, fun k => ?_⟩
    show (downsA (downO S x) l).tot k = _
    rw [t2 k, t1 k, hob, List.count_cons]
    by_cases e : x = k
    · subst e
      simp only [beq_self_eq_true, if_true, true_and]
      split <;> omega
    · have : (x == k) = false := by simpa using e
      simp only [this, Bool.false_eq_true, if_false, e, false_and]
      split <;> omega
theorem map_id_ob {f : Int → Option Ob} : (fun k => if false = true then (f k).map (fun x => clrX x 0) else f k) = f := by funext k; rfl
/-- An object goes: the others' counts are right again. -/
theorem Gd.free {S : EngS} {hs : List Int} (G : Gd S hs) {h : Int} (hh : h ∈ hs) :
    Gd (freeA S h) (hs.erase h) ∧ (freeA S h).ob = updI S.ob h none ∧ (∀ y, y ≠ h → refsA (freeA S h) y = refsA S y) ∧ refsA (freeA S h) h = [] ∧ (∀ k, k ∈ hs → k ≠ h → (freeA S h).tot k = S.tot k - ((refsA S h).count k : Int)) ∧ (freeA S h).lim = S.lim ∧ (freeA S h).wat = updS S.wat h false ∧ (freeA S h).pend = S.pend.filter (fun x => !(x == h)) ∧ (freeA S h).weak = S.weak := by
  have hdead : (gone0 S h).ob h = none := if_pos rfl
  have hlive : ∀ k, k ≠ h → (gone0 S h).ob k = S.ob k := fun k e => if_neg e
  have hmem : ∀ k, k ≠ h → ((∃ x, (gone0 S h).ob k = some x) ↔ k ∈ hs) := fun k e => by rw [hlive k e]; exact (G.mem k).symm
  have D : Ds (gone0 S h) h := ⟨hdead, G.st, fun k e => by rw [hmem k e]; exact G.zero k, fun k e hk => by rw [hmem k e] at hk; exact G.pu1 k hk, fun k e hk => by rw [hmem k e]; exact G.pu2 k hk⟩
  have hle : ∀ k, (∃ y, (gone0 S h).ob k = some y) → ((refsA S h).count k : Int) ≤ (gone0 S h).tot k := fun k hk => by
    by_cases e : k = h
    · subst e; obtain ⟨y, hy⟩ := hk; rw [hdead] at hy; cases hy
    · have hk' := (hmem k e).1 hk
      have h1 := G.cnt k hk'
      have h2 : (refsA S h).count k ≤ cntR S hs k := sumN_le (fun y => (refsA S y).count k) hh
      show _ ≤ S.tot k
      omega
  obtain ⟨D2, t2⟩ := D.downs (refsA S h) (gone0 S h) hle
  have hsame := downsA_same (refsA S h) (gone0 S h)
  generalize hT : downsA (gone0 S h) (refsA S h) = T at *
  have hwk : ∀ k, updS S.weak h false k = false := fun k => by
    unfold updS
    split
    · rfl
    · exact G.weak k
  have hF : freeA S h = { T with ob := T.ob, weak := updS T.weak h false, Z := updS T.Z h false, Pu := updS T.Pu h false, tot := updI T.tot h 0, st := updB T.st h false, wat := updS T.wat h false, pend := T.pend.filter (fun x => !(x == h)) } := by
    unfold freeA
    rw [hT]
    dsimp only
    congr 1
    funext k
    rw [if_neg (by rw [hwk]; decide)]
  have fob : (freeA S h).ob = updI S.ob h none := by rw [hF]; exact hsame.ob
  have fwk : (freeA S h).weak = S.weak := by
    rw [hF]
    show updS T.weak h false = S.weak
    rw [hsame.weak]
    funext k
    exact (hwk k).trans (G.weak k).symm
  have ftot : ∀ k, k ≠ h → (freeA S h).tot k = T.tot k := fun k e => by rw [hF]; exact if_neg e
  have ftot2 : ∀ k, k ∈ hs → k ≠ h → (freeA S h).tot k = S.tot k - ((refsA S h).count k : Int) := fun k hk e => by
    rw [ftot k e, t2 k]
    obtain ⟨x, hx⟩ := (hmem k e).2 hk
    rw [hx]
    rfl
  have fr : ∀ y, y ≠ h → refsA (freeA S h) y = refsA S y := fun y e => refsA_congr (by rw [fwk]) (by rw [fob]; exact if_neg e)
  have frh : refsA (freeA S h) h = [] := refsA_none (by rw [fob]; exact if_pos rfl)
  have hme : ∀ k, k ∈ hs.erase h ↔ k ∈ hs ∧ k ≠ h := fun k => by
    rw [List.Nodup.mem_erase_iff G.nodup]; exact And.comm
  refine ⟨⟨G.nodup.sublist (List.erase_sublist ..), fun k => ?_, fun k => by rw [fwk]; exact G.weak k, fun k => ?_, fun k hk => ?_, fun k => ?_, fun k hk h0 => ?_, fun k hk => ?_, fun k hk => ?_⟩, fob, fr, frh, ftot2, by rw [hF]; exact hsame.lim, by rw [hF]; show updS T.wat h false = _; rw [hsame.wat]; rfl, by rw [hF]; show T.pend.filter _ = _; rw [hsame.pend]; rfl, fwk⟩
  · rw [hme, fob]
    unfold updI
    by_cases e : k = h
    · rw [if_pos e]; exact ⟨fun z => absurd e z.2, fun ⟨x, z⟩ => by cases z⟩
    · rw [if_neg e, ← G.mem k]; exact ⟨fun z => z.1, fun z => ⟨z, e⟩⟩
  · rw [hF]
    show updB T.st h false k = false
    unfold updB
    split
    · rfl
    · exact D2.st k
  · obtain ⟨hk1, hk2⟩ := (hme k).1 hk
    rw [ftot2 k hk1 hk2, G.cnt k hk1]
    have h1 := sumN_erase (fun y => (refsA S y).count k) hs hh
    have h2 : cntR (freeA S h) (hs.erase h) k = sumN (fun y => (refsA S y).count k) (hs.erase h) := sumN_congr _ fun y hy => by
      show (refsA (freeA S h) y).count k = _
      rw [fr y ((hme y).1 hy).2]
    rw [h2]
    show ((sumN (fun y => (refsA S y).count k) hs : Nat) : Int) - _ = _
    omega
  · rw [hme]
    have hz : (freeA S h).Z k = updS T.Z h false k := by rw [hF]
    rw [hz]
    unfold updS
    by_cases e : k = h
    · rw [if_pos e]; exact ⟨fun z => (by cases z), fun z => absurd e z.1.2⟩
    · rw [if_neg e, D2.zero k e, hsame.ob, hmem k e, ftot k e]
      exact ⟨fun z => ⟨⟨z.1, e⟩, z.2⟩, fun z => ⟨z.1.1, z.2⟩⟩
  · obtain ⟨hk1, hk2⟩ := (hme k).1 hk
    rw [ftot k hk2] at h0
    have : (freeA S h).Pu k = updS T.Pu h false k := by rw [hF]
    rw [this]
    unfold updS
    rw [if_neg hk2]
    exact D2.pu1 k hk2 (by rw [hsame.ob]; exact (hmem k hk2).2 hk1) h0
  · have : (freeA S h).Pu k = updS T.Pu h false k := by rw [hF]
    rw [this] at hk
    unfold updS at hk
    by_cases e : k = h
    · rw [if_pos e] at hk; cases hk
    · rw [if_neg e] at hk
      have := D2.pu2 k e hk
      rw [hsame.ob, hmem k e] at this
      exact (hme k).2 ⟨this, e⟩
  · by_cases e : k = h
    · rw [hF, e]; exact if_pos rfl
    · rw [ftot k e, t2 k]
      have hk' : k ∉ hs := fun z => hk ((hme k).2 ⟨z, e⟩)
      have : (gone0 S h).ob k = none := by
        cases hx : (gone0 S h).ob k with
        | none => rfl
        | some x => exact absurd ((hmem k e).1 ⟨x, hx⟩) hk'
      rw [this]
      show S.tot k - 0 = 0
      rw [G.low k hk']; rfl
end Go.Proofs.YtlpklloagaccoaaGreat
namespace Go.Proofs.YtlpklloagaccoaaGreat
open Go.RowKit
set_option linter.unusedVariables false

/-- At most one, and which. -/
def Pick (P : Int → Prop) (t : Option Int) : Prop := ∀ k, P k ↔ t = some k
def tellA (S : EngS) (h : Int) : EngS := pendA (watA S h false) (S.pend ++ [h])
/-- What the walk asks of an object that is let go. -/
def Rg (S : EngS) (h : Int) : Prop := (∀ k ∈ refsA S h, 0 ≤ k ∧ k < KB) ∧ (refsA S h).length ≤ 1048576 ∧ S.pend.length ≤ 1048576
/-- A drain: what is kept, what waits; what it leaves, what it freed, and told; in how many rounds. -/
inductive Dr : EngS → (Int → Bool) → Option Int → EngS → List Int → List Int → Nat → Prop
  | done (S : EngS) (kept : Int → Bool) : Dr S kept none S [] [] 0
  | free {S S' : EngS} {kept : Int → Bool} {h : Int} {x : Ob} {f t : List Int} {n : Nat} {td : Option Int} : S.wat h = false → S.ob h = some x → Rg S h → S.weak = (fun _ => false) → Pick (fun k => k ∈ refsA S h ∧ (freeA S h).Z k = true ∧ kept k = false) td → Dr (freeA S h) kept td S' f t n → Dr S kept (some h) S' (h :: f) t (n + 1)
  | tell {S S' : EngS} {kept : Int → Bool} {h : Int} {x : Ob} {f t : List Int} {n : Nat} : S.wat h = true → S.ob h = some x → S.pend.length ≤ 1048576 → 0 ≤ h ∧ h < KB → Dr (tellA S h) (updS kept h true) none S' f t n → Dr S kept (some h) S' f (h :: t) (n + 1)
/-- A whole drain, with roots. -/
def keptA (S : EngS) (roots : List Int) : Int → Bool := fun k => decide (k ∈ roots ++ S.pend)
def DrR (S : EngS) (roots : List Int) (S' : EngS) (f t : List Int) : Prop := ∃ td n, n < 1000000 ∧ Pick (fun k => S.Z k = true ∧ keptA S roots k = false) td ∧ Dr S (keptA S roots) td S' f t n
/-- Nothing waits. -/
theorem DrR.idle {S : EngS} {roots : List Int} (h : ∀ k, S.Z k = true → k ∈ roots ∨ k ∈ S.pend) : DrR S roots S [] [] :=
  ⟨none, 0, by omega, fun k => ⟨fun hk => by
    have h1 : decide (k ∈ roots ++ S.pend) = false := hk.2
    rw [decide_eq_false_iff_not, List.mem_append] at h1
    exact absurd (h k hk.1) h1, fun hk => by cases hk⟩, Dr.done S _⟩
end Go.Proofs.YtlpklloagaccoaaGreat
