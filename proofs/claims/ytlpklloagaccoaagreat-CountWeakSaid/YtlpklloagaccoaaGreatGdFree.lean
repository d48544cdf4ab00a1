/- Objects that go: what it does to counts. Plain Lean. No condition. -/
import Derived.Test.YtlpklloagaccoaaGreatGd
namespace Go.Proofs.YtlpklloagaccoaaGreat
open Go.RowKit
set_option linter.unusedVariables false

/-- One less; what is no object is let be. -/
def downO (S : EngS) (x : Int) : EngS := if (S.ob x).isSome = true then downA S x else S
def downsA (S : EngS) (l : List Int) : EngS := l.foldl downO S
/-- A weak object's cells that refer to what is no more. -/
def clrX (x : Ob) (h : Int) : Ob := { x with val := fun i => if i < x.cells ∧ (x.val i).1 = 3 ∧ (x.val i).2 = h then (0, 0) else x.val i }
def gone0 (S : EngS) (h : Int) : EngS := { S with L := shutL S.L, ob := updI S.ob h none }
def freeA (S : EngS) (h : Int) : EngS :=
  let T := downsA (gone0 S h) (refsA S h)
  { T with ob := (fun k => if updS S.weak h false k = true then (T.ob k).map (fun x => clrX x h) else T.ob k), weak := updS T.weak h false, Z := updS T.Z h false, Pu := updS T.Pu h false, tot := updI T.tot h 0, st := updB T.st h false, wat := updS T.wat h false, pend := T.pend.filter (fun x => !(x == h)) }
/-- What 'downs' leave. -/
structure Same (S T : EngS) : Prop where
  L : T.L = S.L
  ob : T.ob = S.ob
  lim : T.lim = S.lim
  st : T.st = S.st
  wat : T.wat = S.wat
  weak : T.weak = S.weak
  pend : T.pend = S.pend
theorem Same.refl (S : EngS) : Same S S := ⟨rfl, rfl, rfl, rfl, rfl, rfl, rfl⟩
theorem Same.trans {S T U : EngS} (h : Same S T) (k : Same T U) : Same S U := ⟨k.L.trans h.L, k.ob.trans h.ob, k.lim.trans h.lim, k.st.trans h.st, k.wat.trans h.wat, k.weak.trans h.weak, k.pend.trans h.pend⟩
theorem downO_same (S : EngS) (x : Int) : Same S (downO S x) := by
  unfold downO
  split
  · exact ⟨rfl, rfl, rfl, rfl, rfl, rfl, rfl⟩
  · exact Same.refl S
theorem downsA_same : ∀ (l : List Int) (S : EngS), Same S (downsA S l)
  | [], S => Same.refl S
  | x :: l, S => (downO_same S x).trans (downsA_same l (downO S x))
/-- Zeros, purple ones as counts have it, but for one that goes. -/
structure Ds (S : EngS) (h : Int) : Prop where
  dead : S.ob h = none
  st : ∀ k, S.st k = false
  zero : ∀ k, k ≠ h → (S.Z k = true ↔ (∃ x, S.ob k = some x) ∧ S.tot k = 0)
  pu1 : ∀ k, k ≠ h → (∃ x, S.ob k = some x) → S.tot k ≠ 0 → S.Pu k = true
  pu2 : ∀ k, k ≠ h → S.Pu k = true → ∃ x, S.ob k = some x
theorem Ds.down {S : EngS} {h x : Int} (D : Ds S h) (hx : (∃ y, S.ob x = some y) → 1 ≤ S.tot x) :
    Ds (downO S x) h ∧ ∀ k, (downO S x).tot k = S.tot k - if x = k ∧ (S.ob k).isSome = true then 1 else 0 := by
  by_cases hs : (S.ob x).isSome = true
  · have e : downO S x = downA S x := if_pos hs
    rw [e]
    obtain ⟨y, hy⟩ := Option.isSome_iff_exists.1 hs
    have h1 := hx ⟨y, hy⟩
    have hxh : x ≠ h := fun e => by rw [e, D.dead] at hy; cases hy
    have htot : ∀ k, (downA S x).tot k = S.tot k - if x = k ∧ (S.ob k).isSome = true then 1 else 0 := fun k => by
      show updI S.tot x (if S.st x then S.tot x else if S.tot x = 0 then 0 else S.tot x - 1) k = _
      unfold updI
      by_cases ek : k = x
      · subst ek; rw [if_pos rfl, if_neg (by rw [D.st]; decide), if_neg (by omega), if_pos ⟨rfl, hs⟩]
      · rw [if_neg ek, if_neg (fun z => ek z.1.symm)]; omega
    refine ⟨⟨D.dead, D.st, fun k hk => ?_, fun k hk hob h0 => ?_, fun k hk hp => ?_⟩, htot⟩
    · show (if S.st x = false ∧ S.tot x ≤ 1 then updS S.Z x true else S.Z) k = true ↔ (∃ z, S.ob k = some z) ∧ (downA S x).tot k = 0
      rw [htot]
      have hz := D.zero k hk
      by_cases ek : x = k
      · subst ek
        rw [if_pos (show x = x ∧ (S.ob x).isSome = true from ⟨rfl, hs⟩)]
        by_cases h2 : S.tot x ≤ 1
        · rw [if_pos ⟨D.st x, h2⟩]
          unfold updS
          rw [if_pos rfl]
          exact ⟨fun _ => ⟨⟨y, hy⟩, by omega⟩, fun _ => rfl⟩
        · rw [if_neg (fun z => h2 z.2), hz]
          exact ⟨fun z => (by have := z.2; omega), fun z => (by have := z.2; omega)⟩
      · rw [if_neg (fun z : x = k ∧ _ => ek z.1), Int.sub_zero, ← hz]
        by_cases h2 : S.st x = false ∧ S.tot x ≤ 1
        · rw [if_pos h2]
          unfold updS
          rw [if_neg (fun z => ek z.symm)]
        · rw [if_neg h2]
    · show (if S.st x = false ∧ ¬ S.tot x ≤ 1 then updS S.Pu x true else S.Pu) k = true
      rw [htot] at h0
      have hob' : ∃ z, S.ob k = some z := hob
      by_cases ek : x = k
      · subst ek
        rw [if_pos (show x = x ∧ (S.ob x).isSome = true from ⟨rfl, hs⟩)] at h0
        rw [if_pos ⟨D.st x, by omega⟩]
        exact if_pos rfl
      · rw [if_neg (fun z : x = k ∧ _ => ek z.1), Int.sub_zero] at h0
        by_cases h2 : S.st x = false ∧ ¬ S.tot x ≤ 1
        · rw [if_pos h2]
          unfold updS
          rw [if_neg (fun z => ek z.symm)]; exact D.pu1 k hk hob' h0
        · rw [if_neg h2]; exact D.pu1 k hk hob' h0
    · have hp' : (if S.st x = false ∧ ¬ S.tot x ≤ 1 then updS S.Pu x true else S.Pu) k = true := hp
      by_cases h2 : S.st x = false ∧ ¬ S.tot x ≤ 1
      · rw [if_pos h2] at hp'
        unfold updS at hp'
        by_cases ek : k = x
        · exact ⟨y, by rw [ek]; exact hy⟩
        · rw [if_neg ek] at hp'; exact D.pu2 k hk hp'
      · rw [if_neg h2] at hp'; exact D.pu2 k hk hp'
  · have e : downO S x = S := if_neg hs
    rw [e]
    refine ⟨D, fun k => ?_⟩
    rw [if_neg (fun z => hs (by rw [z.1]; exact z.2))]; omega
theorem Ds.downs {h : Int} : ∀ (l : List Int) (S : EngS), Ds S h → (∀ k, (∃ y, S.ob k = some y) → (l.count k : Int) ≤ S.tot k) →
    Ds (downsA S l) h ∧ ∀ k, (downsA S l).tot k = S.tot k - if (S.ob k).isSome = true then (l.count k : Int) else 0
  | [], S, D, _ => ⟨D, fun k => by show S.tot k = S.tot k - _; simp⟩
  | x :: l, S, D, hl => by
    have h1 : (∃ y, S.ob x = some y) → 1 ≤ S.tot x := fun hy => by
      have := hl x hy
      rw [List.count_cons_self] at this
      omega
    obtain ⟨D1, t1⟩ := D.down h1
    have hob : (downO S x).ob = S.ob := (downO_same S x).ob
    obtain ⟨D2, t2⟩ := Ds.downs l (downO S x) D1 (fun k hk => by
      rw [hob] at hk
      have h2 := hl k hk
      rw [t1 k, List.count_cons] at *
      obtain ⟨y, hy⟩ := hk
      by_cases e : x = k
      · subst e
        rw [if_pos ⟨rfl, by rw [hy]; rfl⟩]
        simp only [beq_self_eq_true, if_true] at h2
        omega
      · rw [if_neg (fun z => e z.1)]
        have : (x == k) = false := by simpa using e
        simp only [this, Bool.false_eq_true, if_false] at h2
        omega)
    refine ⟨D2, fun k => ?_⟩
    show (downsA (downO S x) l).tot k = _
    rw [t2 k, t1 k, hob, List.count_cons]
    by_cases e : x = k
    · subst e
      simp only [beq_self_eq_true, if_true, true_and]
      split <;> omega
    · have : (x == k) = false := by simpa using e
      simp only [this, Bool.false_eq_true, if_false, e, false_and]
      split <;> omega
theorem map_id_ob {f : Int → Option Ob} : (fun k => if false = true then (f k).map (fun x => clrX x 0) else f k) = f := by funext k; rfl
/-- An object goes: the others' counts are right again. -/
theorem Gd.free {S : EngS} {hs : List Int} (G : Gd S hs) {h : Int} (hh : h ∈ hs) :
    Gd (freeA S h) (hs.erase h) ∧ (freeA S h).ob = updI S.ob h none ∧ (∀ y, y ≠ h → refsA (freeA S h) y = refsA S y) ∧ refsA (freeA S h) h = [] ∧ (∀ k, k ∈ hs → k ≠ h → (freeA S h).tot k = S.tot k - ((refsA S h).count k : Int)) ∧ (freeA S h).lim = S.lim ∧ (freeA S h).wat = updS S.wat h false ∧ (freeA S h).pend = S.pend.filter (fun x => !(x == h)) ∧ (freeA S h).weak = S.weak := by
  have hdead : (gone0 S h).ob h = none := if_pos rfl
  have hlive : ∀ k, k ≠ h → (gone0 S h).ob k = S.ob k := fun k e => if_neg e
  have hmem : ∀ k, k ≠ h → ((∃ x, (gone0 S h).ob k = some x) ↔ k ∈ hs) := fun k e => by rw [hlive k e]; exact (G.mem k).symm
  have D : Ds (gone0 S h) h := ⟨hdead, G.st, fun k e => by rw [hmem k e]; exact G.zero k, fun k e hk => by rw [hmem k e] at hk; exact G.pu1 k hk, fun k e hk => by rw [hmem k e]; exact G.pu2 k hk⟩
  have hle : ∀ k, (∃ y, (gone0 S h).ob k = some y) → ((refsA S h).count k : Int) ≤ (gone0 S h).tot k := fun k hk => by
    by_cases e : k = h
    · subst e; obtain ⟨y, hy⟩ := hk; rw [hdead] at hy; cases hy
    · have hk' := (hmem k e).1 hk
      have h1 := G.cnt k hk'
      have h2 : (refsA S h).count k ≤ cntR S hs k := sumN_le (fun y => (refsA S y).count k) hh
      show _ ≤ S.tot k
      omega
  obtain ⟨D2, t2⟩ := D.downs (refsA S h) (gone0 S h) hle
  have hsame := downsA_same (refsA S h) (gone0 S h)
  generalize hT : downsA (gone0 S h) (refsA S h) = T at *
  have hwk : ∀ k, updS S.weak h false k = false := fun k => by
    unfold updS
    split
    · rfl
    · exact G.weak k
  have hF : freeA S h = { T with ob := T.ob, weak := updS T.weak h false, Z := updS T.Z h false, Pu := updS T.Pu h false, tot := updI T.tot h 0, st := updB T.st h false, wat := updS T.wat h false, pend := T.pend.filter (fun x => !(x == h)) } := by
    unfold freeA
    rw [hT]
    dsimp only
    congr 1
    funext k
    rw [if_neg (by rw [hwk]; decide)]
  have fob : (freeA S h).ob = updI S.ob h none := by rw [hF]; exact hsame.ob
  have fwk : (freeA S h).weak = S.weak := by
    rw [hF]
    show updS T.weak h false = S.weak
    rw [hsame.weak]
    funext k
    exact (hwk k).trans (G.weak k).symm
  have ftot : ∀ k, k ≠ h → (freeA S h).tot k = T.tot k := fun k e => by rw [hF]; exact if_neg e
  have ftot2 : ∀ k, k ∈ hs → k ≠ h → (freeA S h).tot k = S.tot k - ((refsA S h).count k : Int) := fun k hk e => by
    rw [ftot k e, t2 k]
    obtain ⟨x, hx⟩ := (hmem k e).2 hk
    rw [hx]
    rfl
  have fr : ∀ y, y ≠ h → refsA (freeA S h) y = refsA S y := fun y e => refsA_congr (by rw [fwk]) (by rw [fob]; exact if_neg e)
  have frh : refsA (freeA S h) h = [] := refsA_none (by rw [fob]; exact if_pos rfl)
  have hme : ∀ k, k ∈ hs.erase h ↔ k ∈ hs ∧ k ≠ h := fun k => by
    rw [List.Nodup.mem_erase_iff G.nodup]; exact And.comm
  refine ⟨⟨G.nodup.sublist (List.erase_sublist ..), fun k => ?_, fun k => by rw [fwk]; exact G.weak k, fun k => ?_, fun k hk => ?_, fun k => ?_, fun k hk h0 => ?_, fun k hk => ?_, fun k hk => ?_⟩, fob, fr, frh, ftot2, by rw [hF]; exact hsame.lim, by rw [hF]; show updS T.wat h false = _; rw [hsame.wat]; rfl, by rw [hF]; show T.pend.filter _ = _; rw [hsame.pend]; rfl, fwk⟩
  · rw [hme, fob]
    unfold updI
    by_cases e : k = h
    · rw [if_pos e]; exact ⟨fun z => absurd e z.2, fun ⟨x, z⟩ => by cases z⟩
    · rw [if_neg e, ← G.mem k]; exact ⟨fun z => z.1, fun z => ⟨z, e⟩⟩
  · rw [hF]
    show updB T.st h false k = false
    unfold updB
    split
    · rfl
    · exact D2.st k
  · obtain ⟨hk1, hk2⟩ := (hme k).1 hk
    rw [ftot2 k hk1 hk2, G.cnt k hk1]
    have h1 := sumN_erase (fun y => (refsA S y).count k) hs hh
    have h2 : cntR (freeA S h) (hs.erase h) k = sumN (fun y => (refsA S y).count k) (hs.erase h) := sumN_congr _ fun y hy => by
      show (refsA (freeA S h) y).count k = _
      rw [fr y ((hme y).1 hy).2]
    rw [h2]
    show ((sumN (fun y => (refsA S y).count k) hs : Nat) : Int) - _ = _
    omega
  · rw [hme]
    have hz : (freeA S h).Z k = updS T.Z h false k := by rw [hF]
    rw [hz]
    unfold updS
    by_cases e : k = h
    · rw [if_pos e]; exact ⟨fun z => (by cases z), fun z => absurd e z.1.2⟩
    · rw [if_neg e, D2.zero k e, hsame.ob, hmem k e, ftot k e]
      exact ⟨fun z => ⟨⟨z.1, e⟩, z.2⟩, fun z => ⟨z.1.1, z.2⟩⟩
  · obtain ⟨hk1, hk2⟩ := (hme k).1 hk
    rw [ftot k hk2] at h0
    have : (freeA S h).Pu k = updS T.Pu h false k := by rw [hF]
    rw [this]
    unfold updS
    rw [if_neg hk2]
    exact D2.pu1 k hk2 (by rw [hsame.ob]; exact (hmem k hk2).2 hk1) h0
  · have : (freeA S h).Pu k = updS T.Pu h false k := by rw [hF]
    rw [this] at hk
    unfold updS at hk
    by_cases e : k = h
    · rw [if_pos e] at hk; cases hk
    · rw [if_neg e] at hk
      have := D2.pu2 k e hk
      rw [hsame.ob, hmem k e] at this
      exact (hme k).2 ⟨this, e⟩
  · by_cases e : k = h
    · rw [hF, e]; exact if_pos rfl
    · rw [ftot k e, t2 k]
      have hk' : k ∉ hs := fun z => hk ((hme k).2 ⟨z, e⟩)
      have : (gone0 S h).ob k = none := by
        cases hx : (gone0 S h).ob k with
        | none => rfl
        | some x => exact absurd ((hmem k e).1 ⟨x, hx⟩) hk'
      rw [this]
      show S.tot k - 0 = 0
      rw [G.low k hk']; rfl
end Go.Proofs.YtlpklloagaccoaaGreat
