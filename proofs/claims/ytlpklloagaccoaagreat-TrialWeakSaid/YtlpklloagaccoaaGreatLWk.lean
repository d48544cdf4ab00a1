/- A ring to which one object refers weakly: what is known of the engine, calls. Conditions: thirty objects at most. -/
import Derived.Test.YtlpklloagaccoaaGreatLSticks
import Derived.Test.YtlpklloagaccoaaGreatMake8
namespace Go.Proofs.YtlpklloagaccoaaGreat
open Go.RowKit
set_option linter.unusedVariables false

/-- A ring of boxes, of which the first i are set, and a weak one. -/
structure WkT (S : EngS) (n i : Nat) (w : Int) (hs : List Int) (v : Nat × Int) : Prop where
  nodup : hs.Nodup
  nw : w ∉ hs
  len : hs.length = n
  mem : ∀ k, (k = w ∨ k ∈ hs) ↔ ∃ x, S.ob k = some x
  weak : ∀ k, S.weak k = decide (k = w)
  wat : ∀ k, S.wat k = false
  pend : S.pend = []
  lim : S.lim = 1000
  st : ∀ k, S.st k = false
  z : ∀ k, S.Z k = true ↔ k = w ∨ (k ∈ hs ∧ S.tot k = 0)
  pu : ∀ k, S.Pu k = true ↔ k ∈ hs ∧ S.tot k ≠ 0
  low : ∀ k, k ∉ hs → S.tot k = 0
  wk : ∃ x, S.ob w = some x ∧ x.cells = 1 ∧ x.val 0 = v
  box : ∀ j, j < n → ∃ x, S.ob (hs.getD j 0) = some x ∧ x.cells = 1 ∧ (j < i → x.val 0 = (3, hs.getD ((j + 1) % n) 0)) ∧ (i ≤ j → (x.val 0).1 ≠ 3)
  t1 : ∀ j, j < i → S.tot (hs.getD ((j + 1) % n) 0) = 1
  t0 : ∀ k ∈ hs, (∀ j, j < i → k ≠ hs.getD ((j + 1) % n) 0) → S.tot k = 0
theorem WkT.first (L' : Al) (a : Nat) : WkT (makeA (newEng 40 1000) L' a 8 1 0) 0 0 (a : Int) [] (0, 0) := by
  refine ⟨List.nodup_nil, by simp, rfl, fun k => ?_, fun k => ?_, fun k => rfl, rfl, rfl, fun k => rfl, fun k => ?_, fun k => ⟨fun h => (by cases h), fun h => (by cases h.1)⟩, fun k _ => rfl, ⟨newOb 8 1 0, if_pos rfl, rfl, rfl⟩, fun j hj => absurd hj (by omega), fun j hj => absurd hj (by omega), fun k hk => (by cases hk)⟩
  · show _ ↔ ∃ x, updI (fun _ => none) (a : Int) (some (newOb 8 1 0)) k = some x
    unfold updI
    by_cases e : k = (a : Int)
    · rw [if_pos e]; exact ⟨fun _ => ⟨_, rfl⟩, fun _ => .inl e⟩
    · rw [if_neg e]; exact ⟨fun h => (by rcases h with h | h; exact absurd h e; cases h), fun ⟨x, h⟩ => (by cases h)⟩
  · show (if 8 = 8 then updS (fun _ => false) (a : Int) true else fun _ => false) k = _
    rw [if_pos rfl]
    unfold updS
    by_cases e : k = (a : Int)
    · rw [if_pos e, decide_eq_true e]
    · rw [if_neg e, decide_eq_false e]
  · show updS (fun _ => false) (a : Int) true k = true ↔ _
    rw [updS_true]
    exact ⟨fun h => h.elim .inl fun h => (by cases h), fun h => h.elim .inl fun h => (by cases h.1)⟩
section
variable {S : EngS} {n i : Nat} {w : Int} {hs : List Int} {v : Nat × Int}
theorem WkT.more (M : WkT S n 0 w hs v) {L' : Al} {a : Nat} (hno : S.ob (a : Int) = none) : WkT (makeA S L' a 5 1 0) (n + 1) 0 w (hs ++ [(a : Int)]) v := by
  have hna : ¬ ((a : Int) = w ∨ (a : Int) ∈ hs) := fun h => by
    obtain ⟨x, hx⟩ := (M.mem _).1 h
    rw [hno] at hx; cases hx
  have hob : ∀ k, k ≠ (a : Int) → (makeA S L' a 5 1 0).ob k = S.ob k := fun k e => if_neg e
  have hta : S.tot (a : Int) = 0 := M.low _ fun h => hna (.inr h)
  refine ⟨?_, ?_, by simp [M.len], fun k => ?_, fun k => ?_, M.wat, M.pend, M.lim, M.st, fun k => ?_, fun k => ?_, fun k hk => ?_, ?_, fun j hj => ?_, fun j hj => absurd hj (by omega), fun k hk _ => ?_⟩
  · refine List.nodup_append.2 ⟨M.nodup, by simp, fun x hx y hy e => ?_⟩
    simp only [List.mem_singleton] at hy
    rw [e, hy] at hx
    exact hna (.inr hx)
  · intro h
    rcases List.mem_append.1 h with h1 | h1
    · exact M.nw h1
    · simp only [List.mem_singleton] at h1
      exact hna (.inl h1.symm)
  · rw [List.mem_append, List.mem_singleton]
    by_cases e : k = (a : Int)
    · rw [e]
      exact ⟨fun _ => ⟨newOb 5 1 0, if_pos rfl⟩, fun _ => .inr (.inr rfl)⟩
    · rw [hob k e, ← M.mem k]
      exact ⟨fun h => h.elim .inl fun h => h.elim .inr fun h => absurd h e, fun h => h.elim .inl fun h => .inr (.inl h)⟩
  · show (if 5 = 8 then updS S.weak (a : Int) true else S.weak) k = _
    rw [if_neg (by omega)]; exact M.weak k
  · show updS S.Z (a : Int) true k = true ↔ (k = w ∨ (k ∈ hs ++ [(a : Int)] ∧ S.tot k = 0))
    rw [updS_true, M.z, List.mem_append, List.mem_singleton]
    constructor
    · rintro (rfl | h | h)
      · exact .inr ⟨.inr rfl, hta⟩
      · exact .inl h
      · exact .inr ⟨.inl h.1, h.2⟩
    · rintro (h | ⟨h | h, h2⟩)
      · exact .inr (.inl h)
      · exact .inr (.inr ⟨h, h2⟩)
      · exact .inl h
  · show S.Pu k = true ↔ (k ∈ hs ++ [(a : Int)] ∧ S.tot k ≠ 0)
    rw [M.pu, List.mem_append, List.mem_singleton]
    exact ⟨fun h => ⟨.inl h.1, h.2⟩, fun h => ⟨h.1.elim id fun e => absurd (by rw [e]; exact hta) h.2, h.2⟩⟩
  · exact M.low k fun h => hk (List.mem_append.2 (.inl h))
  · obtain ⟨x, h1, h2⟩ := M.wk
    exact ⟨x, (hob _ fun e => hna (.inl e.symm)).trans h1, h2⟩
  · by_cases h : j < n
    · obtain ⟨x, h1, h2, h3, h4⟩ := M.box j h
      rw [getD_append_lt (by rw [M.len]; exact h)]
      exact ⟨x, (hob _ fun e => hna (.inr (by rw [← e]; exact getD_mem (by rw [M.len]; exact h)))).trans h1, h2, fun h => absurd h (by omega), fun _ => h4 (by omega)⟩
    · obtain rfl : j = hs.length := by rw [M.len]; omega
      rw [getD_append_at]
      exact ⟨newOb 5 1 0, if_pos rfl, rfl, fun h => absurd h (by omega), fun _ e => (by cases e)⟩
  · show S.tot k = 0
    by_cases h : k ∈ hs
    · exact M.t0 k h fun j hj => absurd hj (by omega)
    · exact M.low k h
theorem WkT.next (M : WkT S n i w hs v) {j : Nat} (hj : j < n) : hs.getD ((j + 1) % n) 0 ∈ hs := getD_mem (by rw [M.len]; exact Nat.mod_lt _ (by omega))
theorem succ_inj {n j i : Nat} (hj : j < n) (hi : i < n) (h : (j + 1) % n = (i + 1) % n) : j = i := by
  by_cases e1 : i + 1 = n
  · by_cases e2 : j + 1 = n
    · omega
    · rw [e1, Nat.mod_self, Nat.mod_eq_of_lt (by omega)] at h; omega
  · by_cases e2 : j + 1 = n
    · rw [e2, Nat.mod_self, Nat.mod_eq_of_lt (by omega)] at h; omega
    · rw [Nat.mod_eq_of_lt (by omega), Nat.mod_eq_of_lt (by omega)] at h; omega
theorem WkT.set (M : WkT S n i w hs v) (hi : i < n) {x : Ob} (hx : S.ob (hs.getD i 0) = some x) : WkT (setA S (hs.getD i 0) x 0 3 (hs.getD ((i + 1) % n) 0)) n (i + 1) w hs v ∧ (setA S (hs.getD i 0) x 0 3 (hs.getD ((i + 1) % n) 0)).L = S.L := by
  obtain ⟨x', hx', hc, _, hf⟩ := M.box i hi
  rw [hx] at hx'
  cases hx'
  have hf := hf (Nat.le_refl _)
  have hm := M.next hi
  have hy : hs.getD i 0 ∈ hs := getD_mem (by rw [M.len]; exact hi)
  have hnw : ∀ k ∈ hs, k ≠ w := fun k hk e => M.nw (by rw [← e]; exact hk)
  have ht0 : S.tot (hs.getD ((i + 1) % n) 0) = 0 := M.t0 _ hm fun j hj e => by
    have h1 := getD_inj M.nodup (by rw [M.len]; exact Nat.mod_lt _ (by omega)) (by rw [M.len]; exact Nat.mod_lt _ (by omega)) e
    have := succ_inj hi (by omega) h1
    omega
  have hbx : ∀ j, j < n → j ≠ i → hs.getD j 0 ≠ hs.getD i 0 := fun j hj e e2 => e (getD_inj M.nodup (by rw [M.len]; exact hj) (by rw [M.len]; exact hi) e2)
  have hnx : ∀ j, j < n → j ≠ i → hs.getD ((j + 1) % n) 0 ≠ hs.getD ((i + 1) % n) 0 := fun j hj e e2 => e (succ_inj hj hi (getD_inj M.nodup (by rw [M.len]; exact Nat.mod_lt _ (by omega)) (by rw [M.len]; exact Nat.mod_lt _ (by omega)) e2))
  obtain ⟨m, hmd⟩ : ∃ m, m = hs.getD ((i + 1) % n) 0 := ⟨_, rfl⟩
  obtain ⟨y, hyd⟩ : ∃ y, y = hs.getD i 0 := ⟨_, rfl⟩
  rw [← hmd] at hm ht0 hnx ⊢
  rw [← hyd] at hx hy hbx ⊢
  have e : setA S y x 0 3 m = upA (wrA S y x 0 3 m) m := by
    unfold setA
    rw [if_neg (by rw [M.weak, decide_eq_false (hnw y hy)]; decide), if_neg hf, if_pos rfl]
  rw [e]
  have hst : S.st m = false := M.st m
  have htot : ∀ k, (upA (wrA S y x 0 3 m) m).tot k = if k = m then 1 else S.tot k := fun k => by
    show updI S.tot m (if S.st m = true then S.tot m else S.tot m + 1) k = _
    have : (if S.st m = true then S.tot m else S.tot m + 1) = 1 := by rw [hst, ht0]; rfl
    rw [this]; rfl
  have hob : ∀ k, (upA (wrA S y x 0 3 m) m).ob k = if k = y then some (setVal x 0 (3, m)) else S.ob k := fun k => rfl
  refine ⟨⟨M.nodup, M.nw, M.len, fun k => ?_, M.weak, M.wat, M.pend, M.lim, fun k => ?_, fun k => ?_, fun k => ?_, fun k hk => ?_, ?_, fun j hj => ?_, fun j hj => ?_, fun k hk hj => ?_⟩, rfl⟩
  · rw [M.mem, hob]
    by_cases e : k = y
    · rw [if_pos e, e]; exact ⟨fun _ => ⟨_, rfl⟩, fun _ => ⟨_, hx⟩⟩
    · rw [if_neg e]
  · show updB S.st m (S.st m || decide (S.lim ≤ S.tot m + 1)) k = false
    unfold updB
    split
    · rw [hst, Bool.false_or, M.lim, ht0]; rfl
    · exact M.st k
  · rw [htot]
    show (if S.tot m = 0 then updS S.Z m false else S.Z) k = true ↔ _
    rw [if_pos ht0]
    unfold updS
    by_cases e : k = m
    · rw [if_pos e, if_pos e]
      exact ⟨fun h => (by cases h), fun h => h.elim (fun h => absurd (e.symm.trans h) (hnw m hm)) fun h => absurd h.2 (by omega)⟩
    · rw [if_neg e, if_neg e]; exact M.z k
  · rw [htot]
    show (if S.tot m = 0 then updS S.Pu m true else S.Pu) k = true ↔ _
    rw [if_pos ht0, updS_true]
    by_cases e : k = m
    · rw [if_pos e]
      exact ⟨fun _ => ⟨by rw [e]; exact hm, by omega⟩, fun _ => .inl e⟩
    · rw [if_neg e, M.pu]
      exact ⟨fun h => h.resolve_left e, .inr⟩
  · rw [htot, if_neg (fun e => hk (by rw [e]; exact hm))]; exact M.low k hk
  · obtain ⟨z, h1, h2⟩ := M.wk
    exact ⟨z, by rw [hob, if_neg (fun e => hnw y hy e.symm)]; exact h1, h2⟩
  · by_cases e : j = i
    · subst e
      rw [← hyd, ← hmd]
      exact ⟨setVal x 0 (3, m), by rw [hob, if_pos rfl], hc, fun _ => (show updF x.val 0 (3, m) 0 = _ from if_pos rfl), fun h => absurd h (by omega)⟩
    · obtain ⟨z, h1, h2, h3, h4⟩ := M.box j hj
      exact ⟨z, by rw [hob, if_neg (hbx j hj e)]; exact h1, h2, fun h => h3 (by omega), fun h => h4 (by omega)⟩
  · rw [htot]
    by_cases e : j = i
    · subst e; rw [← hmd, if_pos rfl]
    · rw [if_neg (hnx j (by omega) e)]; exact M.t1 j (by omega)
  · rw [htot, if_neg (by rw [hmd]; exact hj i (by omega))]
    exact M.t0 k hk fun j h => hj j (by omega)
theorem WkT.hold (M : WkT S n i w hs v) {x : Ob} (hx : S.ob w = some x) (m : Int) : WkT (setA S w x 0 3 m) n i w hs (3, m) := by
  have e : setA S w x 0 3 m = wrA S w x 0 3 m := by
    unfold setA
    rw [if_pos (by rw [M.weak]; exact decide_eq_true rfl)]
  rw [e]
  have hob : ∀ k, (wrA S w x 0 3 m).ob k = if k = w then some (setVal x 0 (3, m)) else S.ob k := fun k => rfl
  have hnw : ∀ k ∈ hs, k ≠ w := fun k hk e => M.nw (by rw [← e]; exact hk)
  obtain ⟨x', hx', hc, _⟩ := M.wk
  rw [hx] at hx'
  cases hx'
  refine ⟨M.nodup, M.nw, M.len, fun k => ?_, M.weak, M.wat, M.pend, M.lim, M.st, M.z, M.pu, M.low, ⟨setVal x 0 (3, m), by rw [hob, if_pos rfl], hc, (show updF x.val 0 (3, m) 0 = _ from if_pos rfl)⟩, fun j hj => ?_, M.t1, M.t0⟩
  · rw [M.mem, hob]
    by_cases e : k = w
    · rw [if_pos e, e]; exact ⟨fun _ => ⟨_, rfl⟩, fun _ => ⟨_, hx⟩⟩
    · rw [if_neg e]
  · obtain ⟨z, h1, h2⟩ := M.box j hj
    exact ⟨z, by rw [hob, if_neg (hnw _ (getD_mem (by rw [M.len]; exact hj)))]; exact h1, h2⟩
/-! ### what a full sweep does -/
theorem WkT.refs (M : WkT S n n w hs v) {j : Nat} (hj : j < n) : refsA S (hs.getD j 0) = [hs.getD ((j + 1) % n) 0] := by
  obtain ⟨x, h1, h2, h3, _⟩ := M.box j hj
  have hne : hs.getD j 0 ≠ w := fun e => M.nw (by rw [← e]; exact getD_mem (by rw [M.len]; exact hj))
  rw [refsA_of (by rw [M.weak]; exact decide_eq_false hne) h1, h2]
  show (if (x.val 0).1 = 3 then [(x.val 0).2] else []) = _
  rw [h3 hj, if_pos rfl]
theorem WkT.refs0 (M : WkT S n n w hs v) {k : Int} (hk : k ∉ hs) : refsA S k = [] := by
  by_cases e : k = w
  · unfold refsA
    rw [if_pos (by rw [M.weak]; exact decide_eq_true e)]
  · refine refsA_none ?_
    cases hx : S.ob k with
    | none => rfl
    | some x => exact absurd ((M.mem k).2 ⟨x, hx⟩) fun h => h.elim e hk
theorem WkT.tot (M : WkT S n n w hs v) {j : Nat} (hj : j < n) : S.tot (hs.getD j 0) = 1 := by
  obtain ⟨i, h1, h2⟩ := ring_pred hj
  rw [← h2]; exact M.t1 i h1
theorem WkT.liv (M : WkT S n n w hs v) : Liv S := ⟨fun k hk => (M.mem k).1 (((M.z k).1 hk).imp id fun h => h.1), fun k hk => (M.mem k).1 (.inr ((M.pu k).1 hk).1)⟩
theorem WkT.obs (M : WkT S n n w hs v) (hn : n ≤ 30) : ∃ ks, Obs S ks ∧ ∀ k, k ∈ ks ↔ k = w ∨ k ∈ hs := by
  obtain ⟨ks, k1, k2, k3⟩ := rise_sort (hs := w :: hs) (List.nodup_cons.2 ⟨M.nw, M.nodup⟩)
  have k2' : ∀ k, k ∈ ks ↔ k = w ∨ k ∈ hs := fun k => by rw [k2, List.mem_cons]
  refine ⟨ks, ⟨k1, fun k => (k2' k).trans (M.mem k), by rw [k3, List.length_cons, M.len]; omega, fun k => ?_, M.liv⟩, k2'⟩
  by_cases h : k ∈ hs
  · obtain ⟨j, hj, rfl⟩ := mem_getD h
    rw [M.refs (by rw [← M.len]; exact hj)]; simp
  · rw [M.refs0 h]; simp
theorem WkT.pur (M : WkT S n n w hs v) {k : Int} (hk : k ∈ hs) : S.Pu k = true := by
  obtain ⟨j, hj, rfl⟩ := mem_getD hk
  rw [M.len] at hj
  exact (M.pu _).2 ⟨hk, by rw [M.tot hj]; decide⟩
theorem WkT.zw (M : WkT S n n w hs v) {k : Int} (hk : S.Z k = true) : k = w := ((M.z k).1 hk).resolve_right fun h => by
  obtain ⟨j, hj, rfl⟩ := mem_getD h.1
  rw [M.len] at hj
  have := M.tot hj
  omega
theorem kept_of {S : EngS} {r : List Int} {k : Int} (h : k ∈ r) : keptA S r k = true := by
  unfold keptA
  exact decide_eq_true (List.mem_append.2 (.inl h))
theorem WkT.fit (M : WkT S n n w hs v) (hg : ∀ k, (∃ x, S.ob k = some x) → 0 ≤ k ∧ k < KB) {r : List Int} (hr : ∀ k ∈ r, k = w ∨ k ∈ hs) (hl : r.length ≤ 1000) : Fit r S := by
  refine ⟨fun k hk => ?_, by rw [M.pend]; simp; omega, fun k hk => hg k (M.liv.z k hk), fun y k hk => ?_, M.liv.p⟩
  · rw [M.pend, List.append_nil] at hk
    exact hg k ((M.mem k).1 (hr k hk))
  · by_cases h : y ∈ hs
    · obtain ⟨j, hj, rfl⟩ := mem_getD h
      rw [M.len] at hj
      rw [M.refs hj, List.mem_singleton] at hk
      rw [hk]
      exact hg _ ((M.mem _).1 (.inr (M.next hj)))
    · rw [M.refs0 h] at hk; cases hk
theorem WkT.dr (M : WkT S n n w hs v) {r : List Int} (hw : w ∈ r) : DrR S r S [] [] := DrR.idle fun k hk => .inl (by rw [M.zw hk]; exact hw)
theorem WkT.held (M : WkT S n n w hs v) (hn : n ≤ 30) {r : List Int} (hw : w ∈ r) {a : Nat} (ha : a < n) (hm : hs.getD a 0 ∈ r) : TrR S r S [] [] := by
  obtain ⟨ks, O, hks⟩ := M.obs hn
  have hf : ks.filter (fun _ => false) = [] := List.filter_eq_nil_iff.2 fun _ _ => by decide
  have := tr_split O r (fun _ => false) (fun k hk e => (by cases e)) (fun os nd hsub hpu k hk e => (by cases e)) (fun k hk _ y _ => rfl) (fun os V nd hsub hpu _ hkept hclo k hk _ => by
    rcases (hks k).1 (hsub k hk) with h | h
    · exact hkept k hk (by rw [kept_of (by rw [h]; exact hw)]; rfl)
    · have h0 : V (hs.getD a 0) = true := hkept _ (hpu _ (M.pur (getD_mem (by rw [M.len]; exact ha)))) (by rw [kept_of hm]; rfl)
      obtain ⟨j, hj, rfl⟩ := mem_getD h
      rw [M.len] at hj
      exact round_all (n := n) (P := fun j => V (hs.getD j 0) = true) (fun j hj hv => hclo _ hv _ (by rw [M.refs hj]; simp) ((hks _).2 (.inr (M.next hj)))) ha h0 j hj) (fun k hk e => (by cases e))
  rw [hf] at this
  exact this
theorem WkT.goes (M : WkT S n n w hs v) (hn : n ≤ 30) : ∃ f, TrR S [w] (freesA S f) f [] ∧ (∀ k, k ∈ f ↔ k ∈ hs) ∧ f.length ≤ 100 := by
  obtain ⟨ks, O, hks⟩ := M.obs hn
  have hD : ∀ k, (decide (k ∈ hs) = true) ↔ k ∈ hs := fun k => decide_eq_true_iff
  refine ⟨ks.filter fun k => decide (k ∈ hs), tr_split O [w] (fun k => decide (k ∈ hs)) (fun k hk e => M.pur ((hD k).1 e)) (fun os nd hsub hpu k hk e => ⟨?_, ?_⟩) (fun k hk e y hy => ?_) (fun os V nd hsub hpu _ hkept hclo k hk e => ?_) (fun k hk e => M.wat k), fun k => ?_, ?_⟩
  · unfold keptA
    rw [M.pend]
    refine decide_eq_false fun h => ?_
    simp only [List.append_nil, List.mem_singleton] at h
    exact M.nw (by rw [← h]; exact (hD k).1 e)
  · obtain ⟨j, hj, rfl⟩ := mem_getD ((hD k).1 e)
    rw [M.len] at hj
    obtain ⟨i, h1, h2⟩ := ring_pred hj
    unfold outA
    rw [M.st, Bool.false_or, M.tot hj]
    refine decide_eq_false ?_
    have h3 := sumN_le (fun y => (refsA S y).count (hs.getD j 0)) (hpu _ (M.pur (getD_mem (by rw [M.len]; exact h1))))
    have h4 : (refsA S (hs.getD i 0)).count (hs.getD j 0) = 1 := by rw [M.refs h1, h2]; simp
    have h5 : cntR S os (hs.getD j 0) = sumN (fun y => (refsA S y).count (hs.getD j 0)) os := rfl
    omega
  · have : k ∉ hs := fun h => by rw [(hD k).2 h] at e; cases e
    rw [M.refs0 this] at hy; cases hy
  · have h1 : k ∉ hs := fun h => by rw [(hD k).2 h] at e; cases e
    have h2 := ((hks k).1 (hsub k hk)).resolve_right h1
    exact hkept k hk (by rw [kept_of (by rw [h2]; simp)]; rfl)
  · rw [List.mem_filter, hD, hks]
    exact ⟨fun h => h.2, fun h => ⟨.inr h, h⟩⟩
  · exact Nat.le_trans (List.length_filter_le _ _) O.len
theorem frees_weak {w h : Int} : ∀ (l : List Int) (S : EngS) (x : Ob), w ∉ l → S.weak w = true → S.ob w = some x → x.cells = 1 → (freesA S l).weak w = true ∧ ∃ y, (freesA S l).ob w = some y ∧ y.cells = 1 ∧ (x.val 0 = (0, 0) → y.val 0 = (0, 0)) ∧ (x.val 0 = (3, h) → h ∈ l → y.val 0 = (0, 0))
  | [], S, x, _, hw, hx, hc => ⟨hw, x, hx, hc, id, fun _ h => (by cases h)⟩
  | a :: l, S, x, hl, hw, hx, hc => by
    have hwa : w ≠ a := fun e => hl (by rw [e]; simp)
    have h1 : (freeA S a).ob w = some (clrX x a) := by
      rw [freeA_ob, if_neg hwa, if_pos hw, hx]; rfl
    have h2 : (freeA S a).weak w = true := by
      rw [freeA_weak]
      unfold updS
      rw [if_neg hwa]; exact hw
    have hv : (clrX x a).val 0 = if (x.val 0).1 = 3 ∧ (x.val 0).2 = a then (0, 0) else x.val 0 := by
      show (if 0 < x.cells ∧ (x.val 0).1 = 3 ∧ (x.val 0).2 = a then ((0 : Nat), (0 : Int)) else x.val 0) = _
      have : 0 < x.cells := by omega
      simp only [this, true_and]
    obtain ⟨h3, y, h4, h5, h6, h7⟩ := frees_weak l (freeA S a) (clrX x a) (fun h => hl (by simp [h])) h2 h1 hc
    refine ⟨h3, y, h4, h5, fun e => h6 ?_, fun e hm => ?_⟩
    · rw [hv, if_neg (by rw [e]; exact fun h => absurd h.1 (by decide))]; exact e
    · by_cases e2 : h = a
      · exact h6 (by rw [hv, if_pos ⟨by rw [e], by rw [e]; exact e2⟩])
      · rcases List.mem_cons.1 hm with h8 | h8
        · exact absurd h8 e2
        · exact h7 (by rw [hv, if_neg (fun h => e2 (by have := h.2; rw [e] at this; exact this))]; exact e) h8
theorem WkT.sweep {m : Int} (M : WkT S n n w hs (3, m)) (hn1 : 1 ≤ n) (hn : n ≤ 30) (hm : m ∈ hs) (hg : ∀ k, (∃ x, S.ob k = some x) → 0 ≤ k ∧ k < KB) : ∃ S2 f y, FuR [w] S S2 f [] 1 ∧ f.length ≤ 100 ∧ S2.ob w = some y ∧ y.cells = 1 ∧ y.val 0 = (0, 0) ∧ ∀ k, k ∈ [w] ↔ ∃ x, S2.ob k = some x := by
  obtain ⟨f, T, hf, hfl⟩ := M.goes hn
  obtain ⟨x, hx, hc, hv⟩ := M.wk
  have hwf : w ∉ f := fun h => M.nw ((hf w).1 h)
  obtain ⟨h3, y, h4, h5, _, h7⟩ := frees_weak (h := m) f S x hwf (by rw [M.weak]; exact decide_eq_true rfl) hx hc
  have h7 := h7 hv ((hf m).2 hm)
  have hm2 : ∀ k, k ∈ [w] ↔ ∃ x, (freesA S f).ob k = some x := fun k => by
    rw [freesA_live, hf, ← M.mem k, List.mem_singleton]
    constructor
    · rintro rfl; exact ⟨M.nw, .inl rfl⟩
    · rintro ⟨h1, h2⟩; exact h2.resolve_right h1
  have hp2 : (freesA S f).pend = [] := by
    have h1 := freesA_pend f S
    rw [M.pend] at h1
    exact List.eq_nil_of_length_eq_zero (Nat.le_zero.1 h1)
  have hr2 : ∀ k, refsA (freesA S f) k = [] := fun k => by
    by_cases e : k = w
    · unfold refsA
      rw [if_pos (by rw [e]; exact h3)]
    · refine refsA_none ?_
      cases hq : (freesA S f).ob k with
      | none => rfl
      | some z => exact absurd (List.mem_singleton.1 ((hm2 k).2 ⟨z, hq⟩)) e
  have hL2 : Liv (freesA S f) := M.liv.frees f
  have hgw := hg w ⟨x, hx⟩
  have X2 : Fit [w] (freesA S f) := ⟨fun k hk => by
    rw [hp2, List.append_nil, List.mem_singleton] at hk
    rw [hk]; exact hgw, by rw [hp2]; simp, fun k hk => by
    have := List.mem_singleton.1 ((hm2 k).2 (hL2.z k hk))
    rw [this]; exact hgw, fun y k hk => (by rw [hr2] at hk; cases hk), hL2.p⟩
  have D2 : DrR (freesA S f) [w] (freesA S f) [] [] := DrR.idle fun k hk => .inl ((hm2 k).2 (hL2.z k hk))
  have O2 : Obs (freesA S f) [w] := ⟨by simp, hm2, by simp, fun k => by rw [hr2]; simp, hL2⟩
  have T2 : TrR (freesA S f) [w] (freesA S f) [] [] := by
    have := tr_split O2 [w] (fun _ => false) (fun k hk e => (by cases e)) (fun os nd hsub hpu k hk e => (by cases e)) (fun k hk _ y _ => rfl) (fun os V nd hsub hpu _ hkept hclo k hk _ => hkept k hk (by rw [kept_of (hsub k hk)]; rfl)) (fun k hk e => (by cases e))
    exact this
  have X1 := M.fit hg (r := [w]) (fun k hk => .inl (List.mem_singleton.1 hk)) (by simp)
  have hf0 : 0 < f.length := List.length_pos_of_mem ((hf _).2 (show hs.getD 0 0 ∈ hs from getD_mem (by rw [M.len]; omega)))
  have FF := FuR.more X1 (M.dr (by simp)) X1 T (by simp; omega) (.stop X2 D2 X2 T2)
  simp only [List.append_nil, List.nil_append] at FF
  exact ⟨_, f, y, FF, hfl, h4, h5, h7, hm2⟩
end
/-! ### calls -/
def WqMk (o : Own) (w : World) (p n : Nat) (x : Int) (hs : List Int) : Prop := ∃ S, EngRep o w 1 p S ∧ WkT S n 0 x hs (0, 0) ∧ S.L.ok = true ∧ S.L.n = 40 ∧ S.L.t ≤ 2 + n
def WqAt (o : Own) (w : World) (p n i : Nat) (x : Int) (hs : List Int) (v : Nat × Int) : Prop := ∃ S, EngRep o w 1 p S ∧ WkT S n i x hs v
def WqG (o : Own) (w : World) (p : Nat) (x : Int) (v : Nat × Int) (q : Nat) : Prop := (∃ S y, EngRep o w 1 p S ∧ S.ob x = some y ∧ y.cells = 1 ∧ y.val 0 = v) ∧ NmAt o w p q
theorem WqMk.keep {lo hi : Nat} {o o' : Own} {w w' : World} {p n : Nat} {x : Int} {hs : List Int} (h : WqMk o w p n x hs) (k : Fr lo hi o o' w w') (hr : 30 ≤ lo ∨ hi ≤ 1) : WqMk o' w' p n x hs := let ⟨S, E, M⟩ := h; ⟨S, E.keep k (by omega), M⟩
theorem WqAt.keep {lo hi : Nat} {o o' : Own} {w w' : World} {p n i : Nat} {x : Int} {hs : List Int} {v : Nat × Int} (h : WqAt o w p n i x hs v) (k : Fr lo hi o o' w w') (hr : 30 ≤ lo ∨ hi ≤ 1) : WqAt o' w' p n i x hs v := let ⟨S, E, M⟩ := h; ⟨S, E.keep k (by omega), M⟩
theorem WqMk.at {o : Own} {w : World} {p n : Nat} {x : Int} {hs : List Int} (h : WqMk o w p n x hs) : WqAt o w p n 0 x hs (0, 0) := let ⟨S, E, M, _⟩ := h; ⟨S, E, M⟩
section
variable {o : Own} {p n i : Nat} {x : Int} {hs : List Int} {v : Nat × Int}
theorem wq_first (w0 w1 : World) (F : Fr 0 0 o o w0 w1) (E : EngRep o w0 1 p (newEng 40 1000)) :
    Calls Tryz.prog 66 #[.pointer (some ⟨p, 0, none⟩), .int .i64 8, .int .i64 1, .int .i64 0] w1 fun e w' => ∃ (a : Int) (o' : Own), e = .returned (.tuple #[.int .i64 a, .int .i64 0]) ∧ Fr 1 30 o o' w0 w' ∧ WqMk o' w' p 0 a [] := by
  have hw : wordsN 1 0 ≤ 63 := by unfold wordsN; omega
  obtain ⟨L', a, hTk, ht2, _⟩ := tookL_room (newEng 40 1000).L (wordsN 1 0) (by show 1 + _ ≤ 40; omega)
  refine (rmake8 1 0 1 0 rfl rfl L' a w1 F.fresh (E.keep F (.inr (Nat.zero_le _))) rfl (by omega) (by omega) hTk).mono fun e w' hh => ?_
  obtain ⟨⟨h1, o', F', E'⟩, h2, _, h4, h5, h6⟩ := hh
  exact ⟨_, o', h1, (F.none 1 30).trans F', _, E', WkT.first L' a, h5, h6, by
    have : (newEng 40 1000).L.t = 1 := rfl
    show L'.t ≤ 2 + 0
    omega⟩
theorem wq_make (w0 w1 : World) (G : Fr 0 0 o o w0 w1) (A : WqMk o w0 p n x hs) (hn : n < 30) :
    Calls Tryz.prog 66 #[.pointer (some ⟨p, 0, none⟩), .int .i64 5, .int .i64 1, .int .i64 0] w1 fun e w' => ∃ (a : Int) (o' : Own), e = .returned (.tuple #[.int .i64 a, .int .i64 0]) ∧ Fr 1 30 o o' w0 w' ∧ WqMk o' w' p (n + 1) x (hs ++ [a]) := by
  obtain ⟨S, E, M, hok, hn4, ht⟩ := A
  have hw : wordsN 1 0 ≤ 63 := by unfold wordsN; omega
  obtain ⟨L', a, hTk, ht2, _⟩ := tookL_room S.L (wordsN 1 0) (by omega)
  refine (rmake 5 1 0 5 1 0 rfl rfl rfl L' a w1 G.fresh (E.keep G (.inr (Nat.zero_le _))) hok (by omega) (by omega) (by omega) hTk).mono fun e w' hh => ?_
  obtain ⟨⟨h1, o', F', E'⟩, h2, _, h4, h5, h6⟩ := hh
  have hlt : L'.t ≤ 2 + (n + 1) := by omega
  exact ⟨_, o', h1, (G.none 1 30).trans F', _, E', M.more h2, h5, h6.trans hn4, hlt⟩
theorem wq_set {m : Nat} (w0 w1 : World) (G : Fr 0 0 o o w0 w1) (A : WqAt o w0 p n i x hs v) (hi : i < n) (hm : m = (i + 1) % n) :
    Calls Tryz.prog 68 #[.pointer (some ⟨p, 0, none⟩), .int .i64 (hs.getD i 0), .int .i64 0, .agg #[.int .i64 3, .int .i64 (hs.getD m 0)]] w1 fun e w' => ∃ o', e = .returned (.int .i64 0) ∧ Fr 1 30 o o' w0 w' ∧ WqAt o' w' p n (i + 1) x hs v := by
  subst hm
  obtain ⟨S, E, M⟩ := A
  obtain ⟨y, hy, hc, _, hf⟩ := M.box i hi
  obtain ⟨z, hz⟩ := (M.mem _).1 (.inr (M.next hi))
  refine (rset _ 0 y 0 3 _ w1 (by omega) G.fresh (E.keep G (.inr (Nat.zero_le _))) hy rfl (by omega) (by omega) (E.in64 hz) (fun _ => ⟨z, hz⟩) (fun _ e => absurd e (hf (Nat.le_refl _)))).mono fun e w' hh => ?_
  obtain ⟨h3, o', F', E'⟩ := hh
  exact ⟨o', h3, (G.none 1 30).trans F', _, E', (M.set hi hy).1⟩
theorem wq_hold (w0 w1 : World) (G : Fr 0 0 o o w0 w1) (A : WqAt o w0 p n i x hs v) (hn : 1 ≤ n) :
    Calls Tryz.prog 68 #[.pointer (some ⟨p, 0, none⟩), .int .i64 x, .int .i64 0, .agg #[.int .i64 3, .int .i64 (hs.getD 0 0)]] w1 fun e w' => ∃ o', e = .returned (.int .i64 0) ∧ Fr 1 30 o o' w0 w' ∧ WqAt o' w' p n i x hs (3, hs.getD 0 0) := by
  obtain ⟨S, E, M⟩ := A
  obtain ⟨y, hy, hc, _⟩ := M.wk
  obtain ⟨z, hz⟩ := (M.mem _).1 (.inr (show hs.getD 0 0 ∈ hs from getD_mem (by rw [M.len]; omega)))
  refine (rset _ 0 y 0 3 _ w1 (by omega) G.fresh (E.keep G (.inr (Nat.zero_le _))) hy rfl (by omega) (by omega) (E.in64 hz) (fun _ => ⟨z, hz⟩) (fun e _ => by rw [M.weak, decide_eq_true rfl] at e; cases e)).mono fun e w' hh => ?_
  obtain ⟨h3, o', F', E'⟩ := hh
  exact ⟨o', h3, (G.none 1 30).trans F', _, E', M.hold hy _⟩
theorem wq_keeps (w0 w1 : World) (G : Fr 0 0 o o w0 w1) (A : WqAt o w0 p n n x hs (3, hs.getD 0 0)) (hn1 : 1 ≤ n) (hn : n ≤ 30) {g : Option Addr} {cc : Nat} (Rd : RdS w1 w1.heap.size .i64 g 2 [x, hs.getD (n - 1) 0]) (hg : ∀ b off, g = some ⟨b, off, none⟩ → b < w1.heap.size ∧ o b < 1) :
    Calls Tryz.prog 86 #[.pointer (some ⟨p, 0, none⟩), .slice g 2 cc] w1 (TrnPost o w0 [] [] fun o' w' => WqG o' w' p x (3, hs.getD 0 0) (n + 1)) := by
  obtain ⟨S, E, M⟩ := A
  have hl : hs.getD (n - 1) 0 ∈ hs := getD_mem (by rw [M.len]; omega)
  have X := M.fit (fun k ⟨y, hy⟩ => E.rng hy) (r := [x, hs.getD (n - 1) 0]) (fun k hk => by
    simp only [List.mem_cons, List.not_mem_nil, or_false] at hk
    exact hk.imp id fun e => (by rw [e]; exact hl)) (by simp)
  obtain ⟨y, hy, hc, hv⟩ := M.wk
  exact (full_run g 2 cc _ w1 G.fresh (E.keep G (.inr (Nat.zero_le _))) Rd (fun b off h => ⟨(hg b off h).1, .inl (hg b off h).2⟩) (FuR.stop X (M.dr (by simp)) X (M.held hn (by simp) (a := n - 1) (by omega) (by simp))) (by simp)).mono fun e w' hh => hh.law G fun o' w' E' =>
    ⟨⟨S, y, E', hy, hc, hv⟩, S, x :: hs, E', List.nodup_cons.2 ⟨M.nw, M.nodup⟩, by rw [List.length_cons, M.len], fun k => by rw [List.mem_cons]; exact M.mem k⟩
theorem wq_sweeps (w0 w1 : World) (G : Fr 0 0 o o w0 w1) (A : WqAt o w0 p n n x hs (3, hs.getD 0 0)) (hn1 : 1 ≤ n) (hn : n ≤ 30) {g : Option Addr} {cc : Nat} (Rd : RdS w1 w1.heap.size .i64 g 1 [x]) (hg : ∀ b off, g = some ⟨b, off, none⟩ → b < w1.heap.size ∧ o b < 1) :
    Calls Tryz.prog 86 #[.pointer (some ⟨p, 0, none⟩), .slice g 1 cc] w1 fun e w' => ∃ f, TrnPost o w0 f [] (fun o' w' => WqG o' w' p x (0, 0) 1) e w' := by
  obtain ⟨S, E, M⟩ := A
  obtain ⟨S2, f, y, D, hl, h1, h2, h3, h4⟩ := M.sweep hn1 hn (getD_mem (by rw [M.len]; omega)) (fun k ⟨y, hy⟩ => E.rng hy)
  exact (full_run g 1 cc _ w1 G.fresh (E.keep G (.inr (Nat.zero_le _))) Rd (fun b off h => ⟨(hg b off h).1, .inl (hg b off h).2⟩) D (by simp; omega)).mono fun e w' hh => ⟨f, hh.law G fun o' w' E' => ⟨⟨S2, y, E', h1, h2, h3⟩, S2, [x], E', by simp, rfl, h4⟩⟩
theorem wq_cell {q : Nat} (w0 w1 : World) (G : Fr 0 0 o o w0 w1) (A : WqG o w0 p x v q) :
    Calls Tryz.prog 30 #[.pointer (some ⟨p, 0, none⟩), .int .i64 x, .int .i64 0] w1 fun e w' => e = .returned (.tuple #[valV v.1 v.2, .int .i64 0]) ∧ Fr 0 0 o o w0 w' := by
  obtain ⟨⟨S, y, E, hy, hc, hv⟩, _⟩ := A
  refine (rcell x 0 w1 G.fresh (E.keep G (.inr (Nat.zero_le _)))).mono fun e w' hh => ⟨?_, G.below hh.2⟩
  have h1 : cellA S x (0 : Int) = .tuple #[valV (y.val 0).1 (y.val 0).2, .int .i64 0] := cellA_in (k := 0) hy rfl (by omega)
  rw [hh.1, h1, hv]
end
end Go.Proofs.YtlpklloagaccoaaGreat
