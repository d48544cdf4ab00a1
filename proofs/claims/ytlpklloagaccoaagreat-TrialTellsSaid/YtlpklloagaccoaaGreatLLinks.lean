/- Two rings of which one refers to the other one: calls. Conditions: twenty objects at most each. -/
import Derived.Test.YtlpklloagaccoaaGreatLRing
namespace Go.Proofs.YtlpklloagaccoaaGreat
open Go.RowKit
set_option linter.unusedVariables false

/-- Where the edges lead. -/
def lkE (n m j : Nat) : Nat := if j < n then (j + 1) % n else n + (j - n + 1) % m
theorem lkE_lt {n m j : Nat} (h : j < n + m) : lkE n m j < n + m := by
  unfold lkE
  split
  · have := Nat.mod_lt (j + 1) (show 0 < n by omega); omega
  · have := Nat.mod_lt (j - n + 1) (show 0 < m by omega); omega
/-- From the second ring nothing leads to the first one. -/
def LkB (n m : Nat) (R : Int → Int → Prop) : Prop := ∀ j k, n ≤ j → j < n + m → R (hI 2 j) k → ∃ j', n ≤ j' ∧ j' < n + m ∧ k = hI 2 j'
def LkAt (o : Own) (w : World) (p n m i : Nat) : Prop := ∃ T F R, RgAt o w p 40 2 (n + m) (hL 2 (n + m)) 1000 T (fun _ => 2) F R (fun _ => false) [] ∧ T ≤ i ∧ (∀ j, i ≤ j → F (hI 2 j) 0) ∧ (∀ j, F (hI 2 j) 1) ∧ (∀ j, j < i → R (hI 2 j) (hI 2 (lkE n m j))) ∧ LkB n m R
theorem LkAt.keep {lo hi : Nat} {o o' : Own} {w w' : World} {p n m i : Nat} (h : LkAt o w p n m i) (k : Fr lo hi o o' w w') (hr : 30 ≤ lo ∨ hi ≤ 1) : LkAt o' w' p n m i := let ⟨T, F, R, A, B⟩ := h; ⟨T, F, R, A.keep k hr, B⟩
theorem R2Mk.lk {o : Own} {w : World} {p n m N : Nat} (h : R2Mk o w p N) (hN : N = n + m) : LkAt o w p n m 0 := by
  subst hN
  exact ⟨0, _, _, h, by omega, fun j _ => trivial, fun j => trivial, fun j hj => absurd hj (by omega), fun j k _ _ h => h.elim⟩
/-- Both are linked. -/
def LlAt (o : Own) (w : World) (p n m : Nat) : Prop := ∃ T F R, RgAt o w p 40 2 (n + m) (hL 2 (n + m)) 1000 T (fun _ => 2) F R (fun _ => false) [] ∧ (∀ j, j < n + m → R (hI 2 j) (hI 2 (lkE n m j))) ∧ R (hI 2 0) (hI 2 n) ∧ LkB n m R
section
variable {o : Own} {p n m i : Nat}
theorem lk_set {t : Nat} (w0 w1 : World) (G : Fr 0 0 o o w0 w1) (A : LkAt o w0 p n m i) (hi : i < n + m) (hn : n + m ≤ 40) (hE : lkE n m i = t) :
    Calls Tryz.prog 68 #[.pointer (some ⟨p, 0, none⟩), .int .i64 (hI 2 i), .int .i64 0, .agg #[.int .i64 3, .int .i64 (hI 2 t)]] w1 fun e w' => ∃ o', e = .returned (.int .i64 0) ∧ Fr 1 30 o o' w0 w' ∧ LkAt o' w' p n m (i + 1) := by
  obtain ⟨T, F, R, A, hT, hF, hF1, hR, hB⟩ := A
  have ht := lkE_lt hi
  rw [hE] at ht
  refine (rg_set 0 0 rfl w0 w1 G A (mem_hL.2 ⟨i, hi, rfl⟩) (by omega) (hF i (Nat.le_refl _)) (mem_hL.2 ⟨t, ht, rfl⟩) (by omega) (hI_in64 (by omega) (by omega))).mono fun e w' hh => ?_
  obtain ⟨o', h1, h2, h3⟩ := hh
  refine ⟨o', h1, h2, _, _, _, h3, by omega, fun j hj => ⟨hF j (by omega), fun e => by have := hI_inj (by omega) e.1; omega⟩, fun j => ⟨hF1 j, fun e => by have := e.2; omega⟩, fun j hj => ?_, fun j k hj1 hj2 hk => ?_⟩
  · by_cases e : j = i
    · subst e; rw [hE]; exact .inr ⟨rfl, rfl⟩
    · exact .inl (hR j (by omega))
  · rcases hk with hk | ⟨e1, e2⟩
    · exact hB j k hj1 hj2 hk
    · have := hI_inj (by omega) e1
      subst this
      refine ⟨t, ?_, ht, e2⟩
      rw [← hE]
      unfold lkE
      rw [if_neg (by omega)]
      omega
theorem lk_link (w0 w1 : World) (G : Fr 0 0 o o w0 w1) (A : LkAt o w0 p n m (n + m)) (hn1 : 1 ≤ n) (hm1 : 1 ≤ m) (hn : n + m ≤ 40) :
    Calls Tryz.prog 68 #[.pointer (some ⟨p, 0, none⟩), .int .i64 (hI 2 0), .int .i64 1, .agg #[.int .i64 3, .int .i64 (hI 2 n)]] w1 fun e w' => ∃ o', e = .returned (.int .i64 0) ∧ Fr 1 30 o o' w0 w' ∧ LlAt o' w' p n m := by
  obtain ⟨T, F, R, A, hT, hF, hF1, hR, hB⟩ := A
  refine (rg_set 1 1 rfl w0 w1 G A (mem_hL.2 ⟨0, by omega, rfl⟩) (by omega) (hF1 0) (mem_hL.2 ⟨n, by omega, rfl⟩) (by omega) (hI_in64 (by omega) (by omega))).mono fun e w' hh => ?_
  obtain ⟨o', h1, h2, h3⟩ := hh
  refine ⟨o', h1, h2, _, _, _, h3, fun j hj => .inl (hR j hj), .inr ⟨rfl, rfl⟩, fun j k hj1 hj2 hk => ?_⟩
  rcases hk with hk | ⟨e1, e2⟩
  · exact hB j k hj1 hj2 hk
  · have := hI_inj (by omega) e1
    omega
theorem lk_pred {R : Int → Int → Prop} (hR : ∀ j, j < n + m → R (hI 2 j) (hI 2 (lkE n m j))) : ∀ k ∈ hL 2 (n + m), ∃ y, R y k := fun k hk => by
  obtain ⟨j, hj, rfl⟩ := mem_hL.1 hk
  by_cases h : j < n
  · obtain ⟨i, hi, e⟩ := ring_pred h
    have h1 := hR i (by omega)
    unfold lkE at h1
    rw [if_pos hi, e] at h1
    exact ⟨_, h1⟩
  · obtain ⟨i, hi, e⟩ := ring_pred (show j - n < m by omega)
    have h1 := hR (n + i) (by omega)
    unfold lkE at h1
    rw [if_neg (by omega), show n + i - n + 1 = i + 1 by omega, e, show n + (j - n) = j by omega] at h1
    exact ⟨_, h1⟩
theorem lk_one {R : Int → Int → Prop} {V : Int → Bool} (hR : ∀ j, j < n + m → R (hI 2 j) (hI 2 (lkE n m j))) (hc : ∀ k, V k = true → ∀ y, R k y → V y = true) (hn1 : 1 ≤ n) (h0 : V (hI 2 0) = true) : ∀ j, j < n → V (hI 2 j) = true :=
  round_all (P := fun j => V (hI 2 j) = true) (fun j hj hv => by
    have h1 := hR j (by omega)
    unfold lkE at h1
    rw [if_pos hj] at h1
    exact hc _ hv _ h1) (show 0 < n by omega) h0
theorem lk_two {R : Int → Int → Prop} {V : Int → Bool} (hR : ∀ j, j < n + m → R (hI 2 j) (hI 2 (lkE n m j))) (hc : ∀ k, V k = true → ∀ y, R k y → V y = true) (hm1 : 1 ≤ m) (h0 : V (hI 2 n) = true) : ∀ j, n ≤ j → j < n + m → V (hI 2 j) = true := fun j hj1 hj2 => by
  have := round_all (n := m) (P := fun j => V (hI 2 (n + j)) = true) (fun j hj hv => by
    have h1 := hR (n + j) (by omega)
    unfold lkE at h1
    rw [if_neg (by omega), show n + j - n + 1 = j + 1 by omega] at h1
    exact hc _ hv _ h1) (show 0 < m by omega) h0 (j - n) (by omega)
  rw [show n + (j - n) = j by omega] at this
  exact this
theorem hL_take {c : Nat} (h : n ≤ m) : (hL c m).take n = hL c n := by
  unfold hL
  rw [← List.map_take, List.take_range, Nat.min_eq_left h]
/-- How many are left. -/
def NmAt (o : Own) (w : World) (p q : Nat) : Prop := ∃ (S : EngS) (ks : List Int), EngRep o w 1 p S ∧ ks.Nodup ∧ ks.length = q ∧ ∀ k, k ∈ ks ↔ ∃ x, S.ob k = some x
theorem NmAt.keep {lo hi : Nat} {o o' : Own} {w w' : World} {p q : Nat} (h : NmAt o w p q) (k : Fr lo hi o o' w w') (hr : 30 ≤ lo ∨ hi ≤ 1) : NmAt o' w' p q := let ⟨S, ks, E, C⟩ := h; ⟨S, ks, E.keep k (by omega), C⟩
theorem nm_all {q : Nat} (w0 w1 : World) (G : Fr 0 0 o o w0 w1) (A : NmAt o w0 p q) :
    Calls Tryz.prog 74 #[.pointer (some ⟨p, 0, none⟩)] w1 fun e w' => ∃ A cap, e = .returned (.slice A q cap) ∧ Fr 0 0 o o w0 w' := by
  obtain ⟨S, ks, E, nd, hl, hm⟩ := A
  refine (rall w1 (by omega) G.fresh (E.keep G (.inr (Nat.zero_le _)))).mono fun e w' hh => ?_
  obtain ⟨A, cap, hs, h1, h2, h3, _, _⟩ := hh
  have : hs.length = q := by
    rw [← hl]
    refine same_len (sorted_nodup h2.sorted) nd fun k => ?_
    rw [h2.mem k, hm k]
    unfold isOb
    exact Option.isSome_iff_exists
  exact ⟨A, cap, by rw [h1, this], G.trans h3⟩
theorem EmAt.nm {w : World} (h : EmAt o w p) : NmAt o w p 0 := let ⟨S, E, C⟩ := h; ⟨S, [], E, List.nodup_nil, rfl, fun k => ⟨fun hk => (by cases hk), fun ⟨x, hx⟩ => by rw [C.ob] at hx; cases hx⟩⟩
theorem hL_nodup (c n : Nat) (hc : c < 5) : (hL c n).Nodup := sorted_nodup (hL_rise hc n)
theorem ll_run0 (w0 w1 : World) (G : Fr 0 0 o o w0 w1) (A : LlAt o w0 p n m) (hn : n + m ≤ 40) :
    Calls Tryz.prog 85 #[.pointer (some ⟨p, 0, none⟩), .slice none 0 0] w1 (TrnPost o w0 (hL 2 (n + m)) [] fun o' w' => NmAt o' w' p 0) := by
  obtain ⟨T, F, R, ⟨S, E, M, al⟩, hR, _, _⟩ := A
  have X := M.fit (roots := []) (fun k hk => (by cases hk)) (fun k hk => (by cases hk)) (hL_rng (by omega) (by omega)) (by simp)
  have D := M.gone (hL_rise (by omega) _) (by rw [hL_len]; omega) (fun k _ => by omega) (lk_pred hR)
  exact (trial_run none 0 0 [] w1 G.fresh (E.keep G (.inr (Nat.zero_le _))) (rd_nil _ _) (fun b off h => (by cases h)) D X).mono fun e w' hh => hh.law G fun o' w' E' => EmAt.nm ⟨_, E', M.emp⟩
theorem ll_run1 (w0 w1 : World) (G : Fr 0 0 o o w0 w1) (A : LlAt o w0 p n m) (hn : n + m ≤ 40) (hn1 : 1 ≤ n) (hm1 : 1 ≤ m) {g : Option Addr} {cc : Nat} (Rd : RdS w1 w1.heap.size .i64 g 1 [hI 2 0]) (hg : ∀ b off, g = some ⟨b, off, none⟩ → o b < 1) :
    Calls Tryz.prog 85 #[.pointer (some ⟨p, 0, none⟩), .slice g 1 cc] w1 (TrnPost o w0 [] [] fun o' w' => NmAt o' w' p (n + m)) := by
  obtain ⟨T, F, R, ⟨S, E, M, al⟩, hR, hl, _⟩ := A
  have hm : hI 2 0 ∈ hL 2 (n + m) := mem_hL.2 ⟨0, by omega, rfl⟩
  have X := M.fit (roots := [hI 2 0]) (fun k hk => by simp only [List.mem_singleton] at hk; subst hk; exact hm) (fun k hk => (by cases hk)) (hL_rng (by omega) (by omega)) (by simp)
  have D := M.held (hL_rise (by omega) _) (by rw [hL_len]; omega) (fun k _ => by omega) (lk_pred hR) [hI 2 0] (fun V h1 h2 k hk => by
    have h0 := h1 _ hm (by simp)
    obtain ⟨j, hj, rfl⟩ := mem_hL.1 hk
    by_cases h : j < n
    · exact lk_one hR h2 hn1 h0 j h
    · exact lk_two hR h2 hm1 (h2 _ h0 _ hl) j (by omega) hj)
  exact (trial_run g 1 cc [hI 2 0] w1 G.fresh (E.keep G (.inr (Nat.zero_le _))) Rd (fun b off h => .inl (hg b off h)) D X).mono fun e w' hh => hh.law G fun o' w' E' => ⟨S, hL 2 (n + m), E', hL_nodup 2 _ (by omega), hL_len _ _, M.G.mem⟩
theorem ll_run2 (w0 w1 : World) (G : Fr 0 0 o o w0 w1) (A : LlAt o w0 p n m) (hn : n + m ≤ 40) (hn1 : 1 ≤ n) (hm1 : 1 ≤ m) {g : Option Addr} {cc : Nat} (Rd : RdS w1 w1.heap.size .i64 g 1 [hI 2 n]) (hg : ∀ b off, g = some ⟨b, off, none⟩ → o b < 1) :
    Calls Tryz.prog 85 #[.pointer (some ⟨p, 0, none⟩), .slice g 1 cc] w1 (TrnPost o w0 (hL 2 n) [] fun o' w' => NmAt o' w' p m) := by
  obtain ⟨T, F, R, ⟨S, E, M, al⟩, hR, _, hB⟩ := A
  have hm : hI 2 n ∈ hL 2 (n + m) := mem_hL.2 ⟨n, by omega, rfl⟩
  have X := M.fit (roots := [hI 2 n]) (fun k hk => by simp only [List.mem_singleton] at hk; subst hk; exact hm) (fun k hk => (by cases hk)) (hL_rng (by omega) (by omega)) (by simp)
  have O := M.obs (hL_rise (by omega) _) (fun _ => Iff.rfl) (by rw [hL_len]; omega) (fun k _ => by omega)
  have hpu := fun k (hk : k ∈ hL 2 (n + m)) => (lk_pred hR k hk).elim fun y hy => (M.pu hy).2
  have hD : ∀ j, (decide (hI 2 j ∈ hL 2 n) = true) ↔ j < n := fun j => by
    rw [decide_eq_true_iff, mem_hL]
    exact ⟨fun ⟨i, h1, h2⟩ => by have := hI_inj (by omega) h2; omega, fun h => ⟨j, h, rfl⟩⟩
  have D := tr_split O [hI 2 n] (fun k => decide (k ∈ hL 2 n)) (fun k hk _ => hpu k hk) (fun os nd hsub hp k hk hd => ⟨by
    unfold keptA
    rw [M.pend]
    refine decide_eq_false fun h => ?_
    simp only [List.append_nil, List.mem_singleton] at h
    rw [h] at hd
    have := (hD n).1 hd
    omega, M.G.outA nd (fun j => ⟨hsub j, fun hj => hp j (hpu j hj)⟩) (hsub k hk)⟩) (fun k hk hd y hy => by
    obtain ⟨j, hj, rfl⟩ := mem_hL.1 hk
    have h1 : ¬ j < n := fun h => by rw [(hD j).2 h] at hd; cases hd
    obtain ⟨j', h2, h3, rfl⟩ := hB j y (by omega) hj ((M.refs _ _).1 hy)
    cases hq : decide (hI 2 j' ∈ hL 2 n) with
    | false => rfl
    | true => have := (hD j').1 hq; omega) (fun os V nd hsub hp _ hkept hclo k hk hd => by
    obtain ⟨j, hj, rfl⟩ := mem_hL.1 (hsub k hk)
    have h1 : ¬ j < n := fun h => by rw [(hD j).2 h] at hd; cases hd
    refine lk_two hR (fun k hk y hy => hclo k hk y ((M.refs k y).2 hy) (M.cl k y ((M.refs k y).2 hy))) hm1 (hkept _ (hp _ (hpu _ hm)) ?_) j (by omega) hj
    have : keptA S [hI 2 n] (hI 2 n) = true := by
      unfold keptA; exact decide_eq_true (by simp)
    rw [this]; rfl) (fun k _ _ => by rw [M.wat])
  have hf : (hL 2 (n + m)).filter (fun k => decide (k ∈ hL 2 n)) = hL 2 n := by
    refine rise_eq ((hL_rise (by omega) _).filter _) (hL_rise (by omega) _) fun k => ?_
    rw [List.mem_filter, decide_eq_true_iff]
    refine ⟨fun h => h.2, fun h => ⟨?_, h⟩⟩
    obtain ⟨j, hj, rfl⟩ := mem_hL.1 h
    exact mem_hL.2 ⟨j, by omega, rfl⟩
  rw [hf] at D
  refine (trial_run g 1 cc [hI 2 n] w1 G.fresh (E.keep G (.inr (Nat.zero_le _))) Rd (fun b off h => .inl (hg b off h)) D X).mono fun e w' hh => hh.law G fun o' w' E' => ⟨_, (List.range m).map (fun j => hI 2 (n + j)), E', ?_, by simp, fun k => ?_⟩
  · refine sorted_nodup ?_
    rw [List.pairwise_map]
    exact List.pairwise_lt_range.imp fun {a b} h => hI_lt (by omega) (by omega)
  · rw [freesA_live, ← M.G.mem k, List.mem_map, mem_hL, mem_hL]
    constructor
    · rintro ⟨j, h1, rfl⟩
      have := List.mem_range.1 h1
      exact ⟨fun ⟨i, h2, h3⟩ => by have := hI_inj (by omega) h3; omega, n + j, by omega, rfl⟩
    · rintro ⟨h1, j, h2, rfl⟩
      have : ¬ j < n := fun h => h1 ⟨j, h, rfl⟩
      exact ⟨j - n, List.mem_range.2 (by omega), by rw [show n + (j - n) = j by omega]⟩
end
end Go.Proofs.YtlpklloagaccoaaGreat
