/- A ring of which one object's count sticks: what is known of the engine, calls. Conditions: twenty objects, twenty cells at most. -/
import Derived.Test.YtlpklloagaccoaaGreatLLinks
namespace Go.Proofs.YtlpklloagaccoaaGreat
open Go.RowKit
set_option linter.unusedVariables false

/-- A cell is set that held no reference; the count of what it refers to. -/
theorem RgS.set2 {S : EngS} {hs : List Int} {lim : Int} {T : Nat} {K : Int → Nat} {F : Int → Nat → Prop} {R : Int → Int → Prop} {W : Int → Bool} {pl : List Int} (h : RgS S hs lim T K F R W pl) {y n : Int} {i : Nat} (hy : y ∈ hs) (hi : i < K y) (hF : F y i) (hn : n ∈ hs) (hT : S.tot n + 1 < lim) {x : Ob} (hx : S.ob y = some x) :
    RgS (setA S y x i 3 n) hs lim (T + 1) K (fun k q => F k q ∧ ¬ (k = y ∧ q = i)) (fun u k => R u k ∨ (u = y ∧ k = n)) W pl ∧ (∀ k, (setA S y x i 3 n).tot k = S.tot k + if n = k then 1 else 0) := by
  obtain ⟨x', hx', hc, hf⟩ := h.obj y hy
  rw [hx] at hx'
  cases hx'
  obtain ⟨G', hob, hr, hrh, ht, hl, hw, hp, hL⟩ := h.G.set hx (i := i) (by omega) (hf i hF) (n := n) hn (by rw [h.lim]; omega)
  have hcnt : ∀ k, (refsA (setA S y x i 3 n) y).count k = (refsA S y).count k + if n = k then 1 else 0 := fun k => by
    have h2 := refsN_count_upd x.val i 3 n k x.cells
    rw [if_neg (fun z => hf i hF z.2.1)] at h2
    have hi' : i < x.cells := by omega
    simp only [hi', true_and] at h2
    rw [hrh, refsA_of (h.G.weak y) hx]
    omega
  have hm : ∀ u k, k ∈ refsA (setA S y x i 3 n) u ↔ R u k ∨ (u = y ∧ k = n) := fun u k => by
    by_cases e : u = y
    · subst e
      rw [← h.refs u k, ← List.count_pos_iff, hcnt, ← List.count_pos_iff]
      by_cases e2 : n = k
      · subst e2; rw [if_pos rfl]; exact ⟨fun _ => .inr ⟨rfl, rfl⟩, fun _ => by omega⟩
      · rw [if_neg e2, Nat.add_zero]
        exact ⟨.inl, fun z => z.elim id fun z => absurd z.2.symm e2⟩
    · rw [hr u e, h.refs u k]
      exact ⟨.inl, fun z => z.elim id fun z => absurd z.1 e⟩
  refine ⟨⟨G', fun u k hk => ?_, hl.trans h.lim, fun k hk => ?_, fun k => ?_, hm, hw.trans h.wat, hp.trans h.pend⟩, ht⟩
  · rcases (hm u k).1 hk with h2 | h2
    · exact h.cl u k ((h.refs u k).2 h2)
    · rw [h2.2]; exact hn
  · rw [hob]
    by_cases e : k = y
    · subst e
      refine ⟨_, if_pos rfl, hc, fun q hq => ?_⟩
      show (updF x.val i (3, n) q).1 ≠ 3
      unfold updF
      by_cases e2 : q = i
      · exact absurd ⟨rfl, e2⟩ hq.2
      · rw [if_neg e2]; exact hf q hq.1
    · obtain ⟨z, h2, h3, h4⟩ := h.obj k hk
      exact ⟨z, (if_neg e).trans h2, h3, fun q hq => h4 q hq.1⟩
  · rw [ht]
    have := h.tot k
    split <;> omega
theorem getD_inj {hs : List Int} (nd : hs.Nodup) {i j : Nat} (hi : i < hs.length) (hj : j < hs.length) (h : hs.getD i 0 = hs.getD j 0) : i = j := by
  rw [show hs.getD i 0 = hs[i] from by simp [List.getD, hi], show hs.getD j 0 = hs[j] from by simp [List.getD, hj]] at h
  rcases Nat.lt_trichotomy i j with h1 | h1 | h1
  · exact absurd h ((List.pairwise_iff_getElem.1 nd) i j hi hj h1)
  · exact h1
  · exact absurd h.symm ((List.pairwise_iff_getElem.1 nd) j i hj hi h1)
theorem mem_getD {hs : List Int} {k : Int} (h : k ∈ hs) : ∃ j, j < hs.length ∧ k = hs.getD j 0 := by
  obtain ⟨j, hj, e⟩ := List.getElem_of_mem h
  exact ⟨j, hj, by rw [show hs.getD j 0 = hs[j] from by simp [List.getD, hj]]; exact e.symm⟩
/-! ### as they are made -/
def SkMk (o : Own) (w : World) (p L i : Nat) (hs : List Int) : Prop := ∃ S, EngRep o w 1 p S ∧ RgS S hs (L : Int) 0 (fun _ => L) (fun _ _ => True) (fun _ _ => False) (fun _ => false) [] ∧ S.L.ok = true ∧ S.L.n = 40 ∧ S.L.t ≤ 1 + i ∧ hs.length = i
theorem SkMk.keep {lo hi : Nat} {o o' : Own} {w w' : World} {p L i : Nat} {hs : List Int} (h : SkMk o w p L i hs) (k : Fr lo hi o o' w w') (hr : 30 ≤ lo ∨ hi ≤ 1) : SkMk o' w' p L i hs := let ⟨S, E, M⟩ := h; ⟨S, E.keep k (by omega), M⟩
/-- The ring as it is set. -/
def SkAt (o : Own) (w : World) (p L n i : Nat) (hs : List Int) : Prop := ∃ S T F R, EngRep o w 1 p S ∧ RgS S hs (L : Int) T (fun _ => L) F R (fun _ => false) [] ∧ hs.length = n ∧ (∀ j, i ≤ j → j < n → F (hs.getD j 0) 0) ∧ (∀ j q, 1 ≤ q → F (hs.getD j 0) q) ∧
  (∀ y k, R y k ↔ ∃ j, j < i ∧ y = hs.getD j 0 ∧ k = hs.getD ((j + 1) % n) 0) ∧ (∀ j, j < i → S.tot (hs.getD ((j + 1) % n) 0) = 1)
theorem SkAt.keep {lo hi : Nat} {o o' : Own} {w w' : World} {p L n i : Nat} {hs : List Int} (h : SkAt o w p L n i hs) (k : Fr lo hi o o' w w') (hr : 30 ≤ lo ∨ hi ≤ 1) : SkAt o' w' p L n i hs := let ⟨S, T, F, R, E, M⟩ := h; ⟨S, T, F, R, E.keep k (by omega), M⟩
theorem SkMk.at {o : Own} {w : World} {p L n : Nat} {hs : List Int} (h : SkMk o w p L n hs) : SkAt o w p L n 0 hs := by
  obtain ⟨S, E, M, _, _, _, hl⟩ := h
  exact ⟨S, 0, _, _, E, M, hl, fun _ _ _ => trivial, fun _ _ _ => trivial, fun y k => ⟨fun h => h.elim, fun ⟨j, h, _⟩ => absurd h (by omega)⟩, fun j hj => absurd hj (by omega)⟩
/-- .. and as the first one's count rises. -/
structure SkS (S : EngS) (L n i : Nat) (hs : List Int) : Prop where
  nodup : hs.Nodup
  len : hs.length = n
  mem : ∀ k, k ∈ hs ↔ ∃ x, S.ob k = some x
  weak : ∀ k, S.weak k = false
  wat : ∀ k, S.wat k = false
  pend : S.pend = []
  lim : S.lim = (L : Int)
  z : ∀ k, S.Z k = false
  pu : ∀ k, S.Pu k = true ↔ k ∈ hs
  st : S.st (hs.getD 0 0) = decide (L ≤ i)
  tot : S.tot (hs.getD 0 0) = (i : Int)
  obj : ∀ k ∈ hs, ∃ x, S.ob k = some x ∧ x.cells = L ∧ (k = hs.getD 0 0 → ∀ q, i ≤ q → (x.val q).1 ≠ 3)
  cl : Cl S hs
  ring : ∀ j, j < n → hs.getD ((j + 1) % n) 0 ∈ refsA S (hs.getD j 0)
def SkKt (o : Own) (w : World) (p L n i : Nat) (hs : List Int) : Prop := ∃ S, EngRep o w 1 p S ∧ SkS S L n i hs
theorem SkKt.keep {lo hi : Nat} {o o' : Own} {w w' : World} {p L n i : Nat} {hs : List Int} (h : SkKt o w p L n i hs) (k : Fr lo hi o o' w w') (hr : 30 ≤ lo ∨ hi ≤ 1) : SkKt o' w' p L n i hs := let ⟨S, E, M⟩ := h; ⟨S, E.keep k (by omega), M⟩
section
variable {o : Own} {p L n i : Nat} {hs : List Int}
theorem sk_first {w : World} (E : EngRep o w 1 p (newEng 40 (L : Int))) : SkMk o w p L 0 [] := ⟨_, E, RgS.first 40 (L : Int) (fun _ => L), rfl, rfl, Nat.le_refl _, rfl⟩
theorem sk_make (w0 w1 : World) (G : Fr 0 0 o o w0 w1) (A : SkMk o w0 p L i hs) (hi : i < 20) (hL : L ≤ 20) :
    Calls Tryz.prog 66 #[.pointer (some ⟨p, 0, none⟩), .int .i64 7, .int .i64 (L : Nat), .int .i64 0] w1 fun e w' => ∃ (a : Int) (o' : Own), e = .returned (.tuple #[.int .i64 a, .int .i64 0]) ∧ Fr 1 30 o o' w0 w' ∧ SkMk o' w' p L (i + 1) (hs ++ [a]) := by
  obtain ⟨S, E, M, hok, hn, ht, hl⟩ := A
  have hw : wordsN L 0 ≤ 63 := by unfold wordsN; omega
  obtain ⟨L', a, hTk, ht2, _⟩ := tookL_room S.L (wordsN L 0) (by omega)
  refine (rmake 7 L 0 7 (L : Nat) 0 rfl rfl rfl L' a w1 G.fresh (E.keep G (.inr (Nat.zero_le _))) hok (by omega) (by omega) (by omega) hTk).mono fun e w' hh => ?_
  obtain ⟨⟨h1, o', F', E'⟩, h2, _, h4, h5, h6⟩ := hh
  have M1 := M.make (L' := L') (a := a) (kind := 7) (cells := L) (raw := 0) (by omega) h2 rfl
  have hlt : L'.t ≤ 1 + (i + 1) := by omega
  exact ⟨_, o', h1, (G.none 1 30).trans F', _, E', M1, h5, h6.trans hn, hlt, by simp [hl]⟩
theorem EngRep.in64 {w : World} {S : EngS} (E : EngRep o w 1 p S) {h : Int} {x : Ob} (hx : S.ob h = some x) : Go.Proofs.YtlpklloagaccoaaGreat.in64 h := by
  have := E.rng hx
  unfold Go.Proofs.YtlpklloagaccoaaGreat.in64; unfold KB at this; omega
theorem sk_set {m : Nat} (w0 w1 : World) (G : Fr 0 0 o o w0 w1) (A : SkAt o w0 p L n i hs) (hi : i < n) (hL : 2 ≤ L) (hm : m = (i + 1) % n) :
    Calls Tryz.prog 68 #[.pointer (some ⟨p, 0, none⟩), .int .i64 (hs.getD i 0), .int .i64 0, .agg #[.int .i64 3, .int .i64 (hs.getD m 0)]] w1 fun e w' => ∃ o', e = .returned (.int .i64 0) ∧ Fr 1 30 o o' w0 w' ∧ SkAt o' w' p L n (i + 1) hs := by
  obtain ⟨S, T, F, R, E, M, hl, hF, hF1, hR, hone⟩ := A
  have hml : m < n := by rw [hm]; exact Nat.mod_lt _ (by omega)
  have hy : hs.getD i 0 ∈ hs := getD_mem (by omega)
  have hn : hs.getD m 0 ∈ hs := getD_mem (by omega)
  have hno : S.tot (hs.getD m 0) = 0 := by
    rw [M.G.cnt _ hn, M.cl.cnt0 fun y hk => by
      obtain ⟨j, h1, _, h3⟩ := (hR _ _).1 ((M.refs _ _).1 hk)
      have h4 := getD_inj M.G.nodup (by omega) (by rw [hl]; exact Nat.mod_lt _ (by omega)) h3
      rw [hm] at h4
      by_cases e1 : i + 1 = n
      · rw [e1, Nat.mod_self, Nat.mod_eq_of_lt (by omega)] at h4; omega
      · rw [Nat.mod_eq_of_lt (by omega), Nat.mod_eq_of_lt (by omega)] at h4; omega]
    rfl
  obtain ⟨x, hx, hc, hf⟩ := M.obj _ hy
  have hf0 := hF i (Nat.le_refl _) hi
  obtain ⟨xm, hxm⟩ := (M.G.mem _).1 hn
  refine (rset _ 0 x 0 3 _ w1 (by omega) G.fresh (E.keep G (.inr (Nat.zero_le _))) hx rfl (by omega) (by omega) (E.in64 hxm) (fun _ => ⟨xm, hxm⟩) (fun _ e => absurd e (hf 0 hf0))).mono fun e w' hh => ?_
  obtain ⟨h3, o', F', E'⟩ := hh
  obtain ⟨M', ht⟩ := M.set2 (y := hs.getD i 0) (n := hs.getD m 0) (i := 0) hy (by omega) hf0 hn (by rw [hno]; omega) hx
  refine ⟨o', h3, (G.none 1 30).trans F', _, _, _, _, E', M', hl, fun j hj1 hj2 => ⟨hF j (by omega) hj2, fun e => by have := getD_inj M.G.nodup (by omega) (by omega) e.1; omega⟩, fun j q hq => ⟨hF1 j q hq, fun e => by omega⟩, fun y k => ?_, fun j hj => ?_⟩
  · rw [hR]
    constructor
    · rintro (⟨j, h1, h2, h3⟩ | ⟨h2, h3⟩)
      · exact ⟨j, by omega, h2, h3⟩
      · exact ⟨i, by omega, h2, by rw [← hm]; exact h3⟩
    · rintro ⟨j, h1, h2, h3⟩
      by_cases e : j = i
      · subst e; rw [← hm] at h3; exact .inr ⟨h2, h3⟩
      · exact .inl ⟨j, by omega, h2, h3⟩
  · rw [ht]
    by_cases e : j = i
    · subst e; rw [← hm, hno, if_pos rfl]; rfl
    · rw [hone j (by omega), if_neg (fun e2 => by
        have h4 := getD_inj M.G.nodup (by omega) (by rw [hl]; exact Nat.mod_lt _ (by omega)) e2
        rw [hm] at h4
        by_cases e1 : i + 1 = n
        · rw [e1, Nat.mod_self, Nat.mod_eq_of_lt (by omega)] at h4; omega
        · rw [Nat.mod_eq_of_lt (by omega), Nat.mod_eq_of_lt (by omega)] at h4; omega)]; rfl
theorem SkAt.kt {w : World} (A : SkAt o w p L n n hs) (hn : 1 ≤ n) (hL : 2 ≤ L) : SkKt o w p L n 1 hs := by
  obtain ⟨S, T, F, R, E, M, hl, hF, hF1, hR, hone⟩ := A
  have hp : ∀ k ∈ hs, ∃ y, R y k := fun k hk => by
    obtain ⟨j, hj, rfl⟩ := mem_getD hk
    obtain ⟨i, h1, h2⟩ := ring_pred (show j < n by omega)
    exact ⟨_, (hR _ _).2 ⟨i, h1, rfl, by rw [h2]⟩⟩
  have h0 : hs.getD 0 0 = hs.getD ((n - 1 + 1) % n) 0 := by rw [show n - 1 + 1 = n by omega, Nat.mod_self]
  refine ⟨S, E, M.G.nodup, hl, M.G.mem, M.G.weak, fun k => by rw [M.wat], M.pend, M.lim, M.noz hp, fun k => ⟨M.G.pu2 k, fun hk => (hp k hk).elim fun y hy => (M.pu hy).2⟩, ?_, ?_, fun k hk => ?_, M.cl, fun j hj => (M.refs _ _).2 ((hR _ _).2 ⟨j, hj, rfl, rfl⟩)⟩
  · rw [M.G.st]; exact (decide_eq_false (by omega)).symm
  · rw [h0, hone (n - 1) (by omega)]; rfl
  · obtain ⟨x, h1, h2, h3⟩ := M.obj k hk
    refine ⟨x, h1, h2, fun e q hq => h3 q ?_⟩
    rw [e]
    exact hF1 0 q hq
theorem sk_up (w0 w1 : World) (G : Fr 0 0 o o w0 w1) (A : SkKt o w0 p L n i hs) (hn : 1 ≤ n) (hi : i < L) (hi1 : 1 ≤ i) (ii : Int) (hii : ii = i) :
    Calls Tryz.prog 68 #[.pointer (some ⟨p, 0, none⟩), .int .i64 (hs.getD 0 0), .int .i64 ii, .agg #[.int .i64 3, .int .i64 (hs.getD 0 0)]] w1 fun e w' => ∃ o', e = .returned (.int .i64 0) ∧ Fr 1 30 o o' w0 w' ∧ SkKt o' w' p L n (i + 1) hs := by
  obtain ⟨S, E, M⟩ := A
  have hm : hs.getD 0 0 ∈ hs := getD_mem (by rw [M.len]; omega)
  obtain ⟨x, hx, hc, hf⟩ := M.obj _ hm
  have hfi := hf rfl i (Nat.le_refl _)
  obtain ⟨h, hh0⟩ : ∃ h, h = hs.getD 0 0 := ⟨_, rfl⟩
  have Mst := M.st
  have Mtot := M.tot
  rw [← hh0] at hm hx Mst Mtot ⊢
  refine (rset h ii x i 3 h w1 (by omega) G.fresh (E.keep G (.inr (Nat.zero_le _))) hx hii (by omega) (by omega) (E.in64 hx) (fun _ => ⟨x, hx⟩) (fun _ e => absurd e hfi)).mono fun e w' hh => ?_
  obtain ⟨h3, o', F', E'⟩ := hh
  have eS : setA S h x i 3 h = upA (wrA S h x i 3 h) h := by
    unfold setA
    rw [if_neg (by rw [M.weak]; decide), if_neg hfi, if_pos rfl]
  rw [eS] at E'
  have hst : S.st h = false := Mst.trans (decide_eq_false (by omega))
  have ht0 : ¬ S.tot h = 0 := by rw [Mtot]; omega
  have hob : (upA (wrA S h x i 3 h) h).ob = updI S.ob h (some (setVal x i (3, h))) := rfl
  have hr : ∀ y, y ≠ h → refsA (upA (wrA S h x i 3 h) h) y = refsA S y := fun y hy => refsA_congr rfl (by rw [hob]; exact if_neg hy)
  have hrh : refsA (upA (wrA S h x i 3 h) h) h = refsN (updF x.val i (3, h)) x.cells := by
    rw [refsA_of (S := upA (wrA S h x i 3 h) h) (M.weak h) (x := setVal x i (3, h)) (by rw [hob]; exact if_pos rfl)]; rfl
  have hcnt : ∀ k, (refsA (upA (wrA S h x i 3 h) h) h).count k = (refsA S h).count k + if h = k then 1 else 0 := fun k => by
    have h2 := refsN_count_upd x.val i 3 h k x.cells
    rw [if_neg (fun z => hfi z.2.1)] at h2
    have hi' : i < x.cells := by omega
    simp only [hi', true_and] at h2
    rw [hrh, refsA_of (M.weak h) hx]
    omega
  have hin : ∀ y k, k ∈ refsA S y → k ∈ refsA (upA (wrA S h x i 3 h) h) y := fun y k hk => by
    by_cases e : y = h
    · subst e
      have := List.count_pos_iff.2 hk
      exact List.count_pos_iff.1 (by rw [hcnt]; omega)
    · rw [hr y e]; exact hk
  refine ⟨o', h3, (G.none 1 30).trans F', _, E', M.nodup, M.len, fun k => ?_, M.weak, M.wat, M.pend, M.lim, ?_, ?_, ?_, ?_, fun k hk => ?_, fun y k hk => ?_, fun j hj => hin _ _ (M.ring j hj)⟩
  · rw [M.mem, hob]
    unfold updI
    by_cases e : k = h
    · rw [if_pos e, e]; exact ⟨fun _ => ⟨_, rfl⟩, fun _ => ⟨_, hx⟩⟩
    · rw [if_neg e]
  · intro k
    show (if S.tot h = 0 then updS S.Z h false else S.Z) k = false
    rw [if_neg ht0]; exact M.z k
  · intro k
    show (if S.tot h = 0 then updS S.Pu h true else S.Pu) k = true ↔ _
    rw [if_neg ht0]; exact M.pu k
  · rw [← hh0]
    show updB S.st h (S.st h || decide (S.lim ≤ S.tot h + 1)) h = _
    unfold updB
    rw [if_pos rfl, hst, Bool.false_or, M.lim, Mtot]
    exact decide_eq_decide.2 (by omega)
  · rw [← hh0]
    show updI S.tot h (if S.st h = true then S.tot h else S.tot h + 1) h = _
    unfold updI
    rw [if_pos rfl, hst, if_neg (by decide), Mtot]; rfl
  · rw [hob]
    unfold updI
    obtain ⟨z, h4, h5, h6⟩ := M.obj k hk
    by_cases e : k = h
    · rw [if_pos e]
      refine ⟨_, rfl, hc, fun _ q hq => ?_⟩
      show (updF x.val i (3, h) q).1 ≠ 3
      unfold updF
      rw [if_neg (by omega)]
      exact hf rfl q (by omega)
    · rw [if_neg e]
      exact ⟨z, h4, h5, fun e2 => absurd (e2.trans hh0.symm) e⟩
  · by_cases e : y = h
    · subst e
      have h7 := List.count_pos_iff.2 hk
      rw [hcnt] at h7
      by_cases e2 : y = k
      · rw [← e2]; exact hm
      · rw [if_neg e2] at h7
        exact M.cl y k (List.count_pos_iff.1 (by omega))
    · rw [hr y e] at hk
      exact M.cl y k hk
/-- At last it sticks, and holds all. -/
theorem SkS.tr {S : EngS} (M : SkS S L n L hs) (hn1 : 1 ≤ n) (hn : n ≤ 20) (hL : L ≤ 20) : TrR S [] S [] [] := by
  have hlive : Liv S := ⟨fun k hk => (by rw [M.z] at hk; cases hk), fun k hk => (M.mem k).1 ((M.pu k).1 hk)⟩
  have hnd : hs.mergeSort.Nodup := (List.mergeSort_perm hs _).nodup_iff.2 M.nodup
  have hmm : ∀ k, k ∈ hs.mergeSort ↔ k ∈ hs := fun k => (List.mergeSort_perm hs _).mem_iff
  have hle : hs.mergeSort.Pairwise (fun a b => decide (a ≤ b) = true) := List.pairwise_mergeSort (fun a b c h1 h2 => decide_eq_true (by have := of_decide_eq_true h1; have := of_decide_eq_true h2; omega)) (fun a b => by
    by_cases e : a ≤ b
    · rw [decide_eq_true e]; rfl
    · rw [decide_eq_true (show b ≤ a by omega), Bool.or_true]) hs
  have hri : hs.mergeSort.Pairwise (· < ·) := (hle.and hnd).imp fun {a b} h => by have := of_decide_eq_true h.1; have := h.2; omega
  have O : Obs S hs.mergeSort := ⟨hri, fun k => (hmm k).trans (M.mem k), by rw [(List.mergeSort_perm hs _).length_eq, M.len]; omega, fun k => by
    cases hx : S.ob k with
    | none => rw [refsA_none hx]; simp
    | some x =>
      obtain ⟨x', h5, h6, _⟩ := M.obj k ((M.mem k).2 ⟨x, hx⟩)
      rw [hx] at h5
      cases h5
      rw [refsA_of (M.weak k) hx]
      have := refsN_len x.val x.cells
      omega, hlive⟩
  have hf : hs.mergeSort.filter (fun _ => false) = [] := List.filter_eq_nil_iff.2 fun _ _ => by decide
  have := tr_split O [] (fun _ => false) (fun k hk e => (by cases e)) (fun os nd hsub hpu k hk e => (by cases e)) (fun k hk _ y _ => rfl) (fun os V nd hsub hpu _ hkept hclo k hk _ => by
    have h0 : V (hs.getD 0 0) = true := hkept _ (hpu _ ((M.pu _).2 (getD_mem (by rw [M.len]; omega)))) (by
      have h1 := M.st
      rw [decide_eq_true (Nat.le_refl L)] at h1
      unfold outA
      rw [h1]
      simp)
    obtain ⟨j, hj, rfl⟩ := mem_getD ((hmm k).1 (hsub k hk))
    rw [M.len] at hj
    exact round_all (n := n) (P := fun j => V (hs.getD j 0) = true) (fun j hj hv => hclo _ hv _ (M.ring j hj) ((hmm _).2 (M.cl _ _ (M.ring j hj)))) (a := 0) (by omega) h0 j hj) (fun k hk e => (by cases e))
  rw [hf] at this
  exact this
def SkX (o : Own) (w : World) (p n : Nat) (h : Int) : Prop := ∃ S x, EngRep o w 1 p S ∧ S.ob h = some x ∧ S.st h = true ∧ NmAt o w p n
theorem sk_sweep (w0 w1 : World) (G : Fr 0 0 o o w0 w1) (A : SkKt o w0 p L n L hs) (hn1 : 1 ≤ n) (hn : n ≤ 20) (hL : L ≤ 20) :
    Calls Tryz.prog 86 #[.pointer (some ⟨p, 0, none⟩), .slice none 0 0] w1 (TrnPost o w0 [] [] fun o' w' => SkX o' w' p n (hs.getD 0 0)) := by
  obtain ⟨S, E, M⟩ := A
  have X : Fit [] S := ⟨fun k hk => (by rw [M.pend] at hk; cases hk), by rw [M.pend]; simp, fun k hk => (by rw [M.z] at hk; cases hk), fun y k hk => by
    obtain ⟨x, hx⟩ := (M.mem k).1 (M.cl y k hk)
    exact E.rng hx, fun k hk => (M.mem k).1 ((M.pu k).1 hk)⟩
  have D : DrR S [] S [] [] := DrR.idle fun k hk => by rw [M.z] at hk; cases hk
  obtain ⟨x, hx⟩ := (M.mem _).1 (show hs.getD 0 0 ∈ hs from getD_mem (by rw [M.len]; omega))
  have hst := M.st
  rw [decide_eq_true (Nat.le_refl L)] at hst
  exact (full_run none 0 0 [] w1 G.fresh (E.keep G (.inr (Nat.zero_le _))) (rd_nil _ _) (fun b off h => (by cases h)) (FuR.stop X D X (M.tr hn1 hn hL)) (by simp)).mono fun e w' hh => hh.law G fun o' w' E' => ⟨S, x, E', hx, hst, S, hs, E', M.nodup, M.len, M.mem⟩
end
end Go.Proofs.YtlpklloagaccoaaGreat
