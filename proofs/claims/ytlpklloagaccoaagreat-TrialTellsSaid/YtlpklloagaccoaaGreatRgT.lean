/- What trials and sweeps do to rings. Plain Lean. No condition. A ring to which one more object refers: what trials and sweeps do. Plain Lean. No condition. -/
import Derived.Test.YtlpklloagaccoaaGreatFull
import Derived.Test.YtlpklloagaccoaaGreatRing
import Derived.Test.YtlpklloagaccoaaGreatLaw13
namespace Go.Proofs.YtlpklloagaccoaaGreat
open Go.RowKit
set_option linter.unusedVariables false

theorem Cl.cnt0 {S : EngS} {hs : List Int} (h : Cl S hs) {k : Int} (hk : ∀ y, k ∉ refsA S y) : cntR S hs k = 0 := sumN_zero fun y _ => List.count_eq_zero.2 (hk y)
/-- No object is left. -/
structure Emp (S : EngS) : Prop where
  ob : ∀ k, S.ob k = none
  liv : Liv S
  pend : S.pend = []
theorem Emp.fit {S : EngS} (h : Emp S) : Fit [] S :=
  ⟨fun k hk => (by rw [h.pend] at hk; cases hk), by rw [h.pend]; simp, fun k hk => (by
    obtain ⟨x, hx⟩ := h.liv.z k hk
    rw [h.ob] at hx; cases hx), fun y k hk => (by rw [refsA_none (h.ob y)] at hk; cases hk), h.liv.p⟩
theorem Emp.dr {S : EngS} (h : Emp S) : DrR S [] S [] [] := DrR.idle fun k hk => by
  obtain ⟨x, hx⟩ := h.liv.z k hk
  rw [h.ob] at hx; cases hx
theorem Emp.obs {S : EngS} (h : Emp S) : Obs S [] :=
  ⟨List.Pairwise.nil, fun k => ⟨fun hk => (by cases hk), fun ⟨x, hx⟩ => (by rw [h.ob] at hx; cases hx)⟩, by simp, fun k => by rw [refsA_none (h.ob k)]; simp, h.liv⟩
theorem Emp.tr {S : EngS} (h : Emp S) : TrR S [] S [] [] :=
  tr_split h.obs [] (fun _ => false) (fun k hk => (by cases hk)) (fun os _ hs _ k hk => by cases hs k hk) (fun k hk => (by cases hk)) (fun os V _ hs _ _ _ _ k hk => by cases hs k hk) (fun k hk => (by cases hk))
theorem Emp.full {S : EngS} (h : Emp S) : FuR [] S S [] [] 0 := .stop h.fit h.dr h.fit h.tr
theorem Emp.none {S : EngS} (h : Emp S) {ks : List Int} (hk : SetL (isOb S.ob) ks) : ks = [] := hk.none fun k => by unfold isOb; rw [h.ob]; rfl
theorem Emp.frees {S : EngS} {hs : List Int} (L : Liv S) (hp : S.pend = []) (h : ∀ k, (∃ x, S.ob k = some x) → k ∈ hs) : Emp (freesA S hs) := by
  refine ⟨fun k => ?_, L.frees hs, ?_⟩
  · cases hx : (freesA S hs).ob k with
    | none => rfl
    | some x =>
      obtain ⟨h1, h2⟩ := (freesA_live hs S k).1 ⟨x, hx⟩
      exact absurd (h k h2) h1
  · have h1 := freesA_pend hs S
    rw [hp] at h1
    exact List.eq_nil_of_length_eq_zero (Nat.le_zero.1 h1)
section
variable {S : EngS} {hs : List Int} {lim : Int} {T : Nat} {K : Int → Nat} {F : Int → Nat → Prop} {R : Int → Int → Prop} {W : Int → Bool} {pl : List Int}
theorem RgS.fit (h : RgS S hs lim T K F R W pl) {roots : List Int} (hr : ∀ k ∈ roots, k ∈ hs) (hp : ∀ k ∈ pl, k ∈ hs) (hg : ∀ k ∈ hs, 0 ≤ k ∧ k < KB) (hl : roots.length + pl.length ≤ 1000000) : Fit roots S :=
  ⟨fun k hk => by
    rw [h.pend] at hk
    exact hg k ((List.mem_append.1 hk).elim (hr k) (hp k)), by rw [h.pend]; exact hl, h.G.zrng hg, fun y k hk => hg k (h.cl y k hk), h.G.liv.p⟩
theorem RgS.noz (h : RgS S hs lim T K F R W pl) (hr : ∀ k ∈ hs, ∃ y, R y k) (k : Int) : S.Z k = false := by
  cases hz : S.Z k with
  | false => rfl
  | true =>
    obtain ⟨h1, h2⟩ := (h.G.zero k).1 hz
    obtain ⟨y, hy⟩ := hr k h1
    have := (h.pu hy).1
    omega
theorem RgS.idle (h : RgS S hs lim T K F R W pl) (hr : ∀ k ∈ hs, ∃ y, R y k) (roots : List Int) : DrR S roots S [] [] := DrR.idle fun k hk => by
  rw [h.noz hr k] at hk; cases hk
/-- Nobody holds anything. -/
theorem RgS.gone (h : RgS S hs lim T K F R (fun _ => false) []) (hri : hs.Pairwise (· < ·)) (hl : hs.length ≤ 100) (hK : ∀ k ∈ hs, K k ≤ 100) (hr : ∀ k ∈ hs, ∃ y, R y k) : TrR S [] (freesA S hs) hs [] := by
  have O := h.obs hri (fun _ => Iff.rfl) hl hK
  have hf : hs.filter (fun _ => true) = hs := List.filter_eq_self.2 fun _ _ => rfl
  have := tr_split O [] (fun _ => true) (fun k hk _ => (hr k hk).elim fun y hy => (h.pu hy).2) (fun os nd hsub hpu k hk _ => ⟨by
    unfold keptA; rw [h.pend]; rfl, h.G.outA nd (fun j => ⟨hsub j, fun hj => (hr j hj).elim fun y hy => hpu j (h.pu hy).2⟩) (hsub k hk)⟩) (fun k hk e => (by cases e)) (fun os V _ _ _ _ _ _ k hk e => (by cases e)) (fun k _ _ => by rw [h.wat])
  rw [hf] at this
  exact this
/-- One of them is held, and holds all. -/
theorem RgS.held (h : RgS S hs lim T K F R W pl) (hri : hs.Pairwise (· < ·)) (hl : hs.length ≤ 100) (hK : ∀ k ∈ hs, K k ≤ 100) (hr : ∀ k ∈ hs, ∃ y, R y k) (roots : List Int) (hc : ∀ V : Int → Bool, (∀ k ∈ hs, k ∈ roots ++ pl → V k = true) → (∀ k, V k = true → ∀ y, R k y → V y = true) → ∀ k ∈ hs, V k = true) : TrR S roots S [] [] := by
  have O := h.obs hri (fun _ => Iff.rfl) hl hK
  have hf : hs.filter (fun _ => false) = [] := List.filter_eq_nil_iff.2 fun _ _ => by decide
  have := tr_split O roots (fun _ => false) (fun k hk e => (by cases e)) (fun os nd hsub hpu k hk e => (by cases e)) (fun k hk _ y _ => rfl) (fun os V nd hsub hpu _ hkept hclo k hk _ => by
    refine hc V (fun j hj hjr => hkept j ((hr j hj).elim fun y hy => hpu j (h.pu hy).2) ?_) (fun j hj y hy => hclo j hj y ((h.refs j y).2 hy) (h.cl j y ((h.refs j y).2 hy))) k (hsub k hk)
    have : keptA S roots j = true := by
      unfold keptA; rw [h.pend]; exact decide_eq_true hjr
    rw [this]; rfl) (fun k hk e => (by cases e))
  rw [hf] at this
  exact this
theorem RgS.emp (h : RgS S hs lim T K F R W []) : Emp (freesA S hs) := Emp.frees h.G.liv h.pend fun k hk => (h.G.mem k).2 hk
/-- A full sweep. -/
theorem RgS.sweep (h : RgS S hs lim T K F R (fun _ => false) []) (hri : hs.Pairwise (· < ·)) (hl : hs.length ≤ 100) (hK : ∀ k ∈ hs, K k ≤ 100) (hr : ∀ k ∈ hs, ∃ y, R y k) (hg : ∀ k ∈ hs, 0 ≤ k ∧ k < KB) (h0 : 0 < hs.length) : FuR [] S (freesA S hs) hs [] 1 := by
  have X := h.fit (roots := []) (fun k hk => (by cases hk)) (fun k hk => (by cases hk)) hg (by simp)
  have := FuR.more X (h.idle hr []) X (h.gone hri hl hK hr) (by simp; omega) h.emp.full
  simpa using this
end
/-! ### one ring -/
theorem ring_pred {n j : Nat} (hj : j < n) : ∃ i, i < n ∧ (i + 1) % n = j := by
  by_cases h : j = 0
  · exact ⟨n - 1, by omega, by rw [show n - 1 + 1 = n by omega, Nat.mod_self]; exact h.symm⟩
  · exact ⟨j - 1, by omega, by rw [show j - 1 + 1 = j by omega]; exact Nat.mod_eq_of_lt hj⟩
/-- Each refers to the next one, round. -/
def RingR (c n : Nat) (R : Int → Int → Prop) : Prop := ∀ j, j < n → R (hI c j) (hI c ((j + 1) % n))
theorem RingR.ref {c n : Nat} {R : Int → Int → Prop} (h : RingR c n R) : ∀ k ∈ hL c n, ∃ y, R y k := fun k hk => by
  obtain ⟨j, hj, rfl⟩ := mem_hL.1 hk
  obtain ⟨i, hi, e⟩ := ring_pred hj
  exact ⟨_, by have := h i hi; rw [e] at this; exact this⟩
theorem RingR.all {c n : Nat} {R : Int → Int → Prop} (h : RingR c n R) {V : Int → Bool} (hc : ∀ k, V k = true → ∀ y, R k y → V y = true) {a : Nat} (ha : a < n) (h0 : V (hI c a) = true) : ∀ k ∈ hL c n, V k = true := fun k hk => by
  obtain ⟨j, hj, rfl⟩ := mem_hL.1 hk
  exact round_all (P := fun j => V (hI c j) = true) (fun j hj hv => hc _ hv _ (h j hj)) ha h0 j hj
end Go.Proofs.YtlpklloagaccoaaGreat
namespace Go.Proofs.YtlpklloagaccoaaGreat
open Go.RowKit
set_option linter.unusedVariables false

theorem RgS.withK {S : EngS} {hs : List Int} {lim : Int} {T : Nat} {K K' : Int → Nat} {F : Int → Nat → Prop} {R : Int → Int → Prop} {W : Int → Bool} {pl : List Int} (h : RgS S hs lim T K F R W pl) (e : ∀ k ∈ hs, K k = K' k) : RgS S hs lim T K' F R W pl :=
  ⟨h.G, h.cl, h.lim, fun k hk => by
    obtain ⟨x, h1, h2, h3⟩ := h.obj k hk
    exact ⟨x, h1, h2.trans (e k hk), h3⟩, h.tot, h.refs, h.wat, h.pend⟩
structure BoxS (S : EngS) (c n a : Nat) (b : Int) (lim : Int) (T : Nat) (K : Int → Nat) (F : Int → Nat → Prop) (R : Int → Int → Prop) : Prop where
  rg : RgS S (hL c n ++ [b]) lim T K F R (fun _ => false) []
  ring : RingR c n R
  one : ∀ k, R b k ↔ k = hI c a
  no : ∀ y, ¬ R y b
  a : a < n
  nb : b ∉ hL c n
  c : c < 5
  n : n ≤ 60
  K : ∀ k, K k ≤ 100
  rng : 0 ≤ b ∧ b < KB
section
variable {S : EngS} {c n a : Nat} {b lim : Int} {T : Nat} {K : Int → Nat} {F : Int → Nat → Prop} {R : Int → Int → Prop}
theorem BoxS.hrng (h : BoxS S c n a b lim T K F R) : ∀ k ∈ hL c n ++ [b], 0 ≤ k ∧ k < KB := fun k hk => by
  rcases List.mem_append.1 hk with h1 | h1
  · obtain ⟨j, hj, rfl⟩ := mem_hL.1 h1
    exact hI_rng h.c (by have := h.n; omega)
  · simp only [List.mem_singleton] at h1
    subst h1; exact h.rng
theorem BoxS.pu (h : BoxS S c n a b lim T K F R) {k : Int} (hk : k ∈ hL c n) : 1 ≤ S.tot k ∧ S.Pu k = true := (h.ring.ref k hk).elim fun y hy => h.rg.pu hy
theorem BoxS.held (h : BoxS S c n a b lim T K F R) : TrR S [b] S [] [] := by
  have hnd : (hL c n ++ [b]).Nodup := h.rg.G.nodup
  obtain ⟨ks, k1, k2, k3⟩ := rise_sort hnd
  have O := h.rg.obs k1 k2 (by rw [k3, List.length_append, hL_len]; have := h.n; simp; omega) (fun k _ => h.K k)
  have hf : ks.filter (fun _ => false) = [] := List.filter_eq_nil_iff.2 fun _ _ => by decide
  have hmem : hI c a ∈ hL c n := mem_hL.2 ⟨a, h.a, rfl⟩
  have := tr_split O [b] (fun _ => false) (fun k hk e => (by cases e)) (fun os nd hsub hpu k hk e => (by cases e)) (fun k hk _ y _ => rfl) (fun os V nd hsub hpu hclo1 hkept hclo k hk _ => by
    have hclo' : ∀ j, V j = true → ∀ y, R j y → V y = true := fun j hj y hy => hclo j hj y ((h.rg.refs j y).2 hy) ((k2 y).2 (h.rg.cl j y ((h.rg.refs j y).2 hy)))
    have hon : ∀ j ∈ hL c n, j ∈ os := fun j hj => hpu j (h.pu hj).2
    have hVa : V (hI c a) = true := by
      by_cases hb : b ∈ os
      · have hVb : V b = true := hkept b hb (by
          have : keptA S [b] b = true := by
            unfold keptA; exact decide_eq_true (by simp)
          rw [this]; rfl)
        exact hclo' b hVb _ ((h.one _).2 rfl)
      · refine hkept _ (hon _ hmem) ?_
        have he : ∀ j, j ∈ os ↔ j ∈ hL c n := fun j => ⟨fun hj => by
          have h1 := (k2 j).1 (hsub j hj)
          rcases List.mem_append.1 h1 with h2 | h2
          · exact h2
          · simp only [List.mem_singleton] at h2
            rw [h2] at hj
            exact absurd hj hb, hon j⟩
        have hc := h.rg.G.cnt (hI c a) (by simp [hmem])
        have hs : cntR S (hL c n ++ [b]) (hI c a) = cntR S (hL c n) (hI c a) + ((refsA S b).count (hI c a) + 0) := sumN_append _ _ _
        have hp := List.count_pos_iff.2 ((h.rg.refs b (hI c a)).2 ((h.one _).2 rfl))
        have ho := cntR_same (S := S) nd (List.nodup_append.1 hnd).1 he (hI c a)
        have : outA S os (hI c a) = true := by
          unfold outA
          rw [hc, hs, ho]
          simp only [Bool.or_eq_true, decide_eq_true_eq]
          right; omega
        rw [this, Bool.or_true]
    have hall := h.ring.all (V := V) hclo' h.a hVa
    rcases List.mem_append.1 ((k2 k).1 (hsub k hk)) with h1 | h1
    · exact hall k h1
    · simp only [List.mem_singleton] at h1
      subst h1
      refine hkept k hk ?_
      have : keptA S [k] k = true := by
        unfold keptA; exact decide_eq_true (by simp)
      rw [this]; rfl) (fun k hk e => (by cases e))
  rw [hf] at this
  exact this
/-- It goes. -/
theorem BoxS.off (h : BoxS S c n a b lim T K F R) : RgS (freeA S b) (hL c n) lim T K F (fun y k => R y k ∧ y ≠ b) (fun _ => false) [] := by
  have hb : b ∈ hL c n ++ [b] := by simp
  obtain ⟨G', hob, hr, hrb, ht, hl, hw, hp, _⟩ := h.rg.G.free hb
  have he : (hL c n ++ [b]).erase b = hL c n := by
    rw [List.erase_append_right _ h.nb]; simp
  rw [he] at G'
  have hm : ∀ y k, k ∈ refsA (freeA S b) y ↔ R y k ∧ y ≠ b := fun y k => by
    by_cases e : y = b
    · rw [e, hrb]; exact ⟨fun z => (by cases z), fun z => absurd rfl z.2⟩
    · rw [hr y e, h.rg.refs]; exact ⟨fun z => ⟨z, e⟩, fun z => z.1⟩
  refine ⟨G', fun y k hk => ?_, hl.trans h.rg.lim, fun k hk => ?_, fun k => ?_, hm, ?_, by rw [hp, h.rg.pend]; rfl⟩
  · have h1 := ((hm y k).1 hk).1
    rcases List.mem_append.1 (h.rg.cl y k ((h.rg.refs y k).2 h1)) with h2 | h2
    · exact h2
    · simp only [List.mem_singleton] at h2
      rw [h2] at h1
      exact absurd h1 (h.no y)
  · obtain ⟨x, h1, h2, h3⟩ := h.rg.obj k (by simp [hk])
    exact ⟨x, by rw [hob]; exact (if_neg (fun e => h.nb (by rw [← e]; exact hk))).trans h1, h2, h3⟩
  · by_cases e : k ∈ hL c n
    · rw [ht k (by simp [e]) (fun z => h.nb (by rw [← z]; exact e))]
      have := h.rg.tot k
      omega
    · rw [G'.low k e]; omega
  · rw [hw, h.rg.wat]
    funext k
    unfold updS
    split <;> rfl
theorem BoxS.sweep (h : BoxS S c n a b lim T K F R) : ∃ S' f, FuR [] S S' f [] 1 ∧ f.length ≤ 100 ∧ Emp S' := by
  have h1 := h.off
  have hring : RingR c n (fun y k => R y k ∧ y ≠ b) := fun j hj => ⟨h.ring j hj, fun e => h.nb (by rw [← e]; exact mem_hL.2 ⟨j, hj, rfl⟩)⟩
  have hg := fun k (hk : k ∈ hL c n) => h.hrng k (by simp [hk])
  have hln : (hL c n).length ≤ 100 := by rw [hL_len]; have := h.n; omega
  have X0 := h.rg.fit (roots := []) (fun k hk => (by cases hk)) (fun k hk => (by cases hk)) h.hrng (by simp)
  have X1 := h1.fit (roots := []) (fun k hk => (by cases hk)) (fun k hk => (by cases hk)) hg (by simp)
  obtain ⟨x, hx, _⟩ := h.rg.obj b (by simp)
  have hz : ∀ k, S.Z k = true ↔ k = b := fun k => by
    rw [h.rg.G.zero k]
    constructor
    · rintro ⟨k1, k2⟩
      rcases List.mem_append.1 k1 with h3 | h3
      · have := (h.pu h3).1; omega
      · simpa using h3
    · rintro rfl
      refine ⟨by simp, ?_⟩
      rw [h.rg.G.cnt k (by simp), h.rg.cl.cnt0 (fun y hy => h.no y ((h.rg.refs y k).1 hy))]; rfl
  have hk0 : ∀ k, keptA S [] k = false := fun k => by
    unfold keptA; rw [h.rg.pend]; rfl
  have D : DrR S [] (freeA S b) [b] [] := by
    refine ⟨some b, 1, by omega, fun k => ?_, Dr.free (by rw [h.rg.wat]) hx ⟨fun k hk => h.hrng k (h.rg.cl b k hk), ?_, by rw [h.rg.pend]; simp⟩ (funext h.rg.G.weak) (td := Option.none) (fun k => ?_) (Dr.done _ _)⟩
    · dsimp only
      rw [hz k, hk0]
      simp only [and_true, Option.some.injEq]
      exact ⟨fun e => e.symm, fun e => e.symm⟩
    · have := h.rg.refs_le (y := b) (by simp)
      have := h.K b
      omega
    · dsimp only
      rw [h1.noz hring.ref k]
      exact ⟨fun z => (by cases z.2.1), fun z => (by cases z)⟩
  have FF := FuR.more X0 D X1 (h1.gone (hL_rise h.c n) hln (fun k _ => h.K k) hring.ref) (by simp; omega) h1.emp.full
  simp only [List.append_nil] at FF
  exact ⟨_, _, FF, by simp; rw [hL_len]; have := h.n; omega, h1.emp⟩
end
end Go.Proofs.YtlpklloagaccoaaGreat
