/- A list of texts, and how often they are counted. Conditions: the engine has 60 pages; 60 pushes at most. The walk of ListHolds. No condition but on how the slice lies. -/
import Derived.Test.YtlpklloagaccoaaGreatLaw17
import Derived.Test.YtlpklloagaccoaaGreatText2
import Derived.Test.YtlpklloagaccoaaGreatRefs
import Derived.Outline
namespace Go.Proofs.YtlpklloagaccoaaGreat
open Go.RowKit
set_option linter.unusedVariables false

/-! ### counts that only rise -/
/-- Object 'k' counts 'm' or more. -/
structure Cn (S : EngS) (k : Int) (m : Int) : Prop where
  lim : S.lim = 1000
  st : S.st k = true → 999 ≤ S.tot k
  tot : min m 999 ≤ S.tot k
theorem Cn.less {S : EngS} {k m m' : Int} (h : Cn S k m) (e : m' ≤ m) : Cn S k m' := ⟨h.lim, h.st, by have := h.tot; omega⟩
theorem Cn.of_eq {S S' : EngS} {k m : Int} (h : Cn S k m) (e1 : S'.lim = S.lim) (e2 : S'.st = S.st) (e3 : S'.tot = S.tot) : Cn S' k m := ⟨e1.trans h.lim, by rw [e2, e3]; exact h.st, by rw [e3]; exact h.tot⟩
theorem Cn.up {S : EngS} {k m : Int} (h : Cn S k m) (u : Int) : Cn (upA S u) k (m + if u = k then 1 else 0) := by
  refine ⟨h.lim, ?_, ?_⟩
  · show updB S.st u (S.st u || decide (S.lim ≤ S.tot u + 1)) k = true → 999 ≤ updI S.tot u _ k
    have h1 := h.st
    have h2 := h.lim
    unfold updB updI
    by_cases e : k = u
    · subst e
      rw [if_pos rfl, if_pos rfl]
      by_cases hs : S.st k = true
      · rw [if_pos hs]; intro _; exact h1 hs
      · rw [if_neg hs]
        have hs' : S.st k = false := by simpa using hs
        rw [hs', Bool.false_or]
        intro hd
        have := of_decide_eq_true hd
        omega
    · rw [if_neg e, if_neg e]; exact h1
  · show min _ 999 ≤ updI S.tot u _ k
    have h1 := h.st
    have h2 := h.tot
    unfold updI
    by_cases e : k = u
    · subst e
      rw [if_pos rfl, if_pos rfl]
      by_cases hs : S.st k = true
      · rw [if_pos hs]; have := h1 hs; omega
      · rw [if_neg hs]; omega
    · have e' : ¬ u = k := fun x => e x.symm
      rw [if_neg e, if_neg e']; omega
theorem Cn.down {S : EngS} {k m : Int} (h : Cn S k m) (u : Int) (hu : u ≠ k) : Cn (downA S u) k m := by
  have e : ¬ k = u := fun x => hu x.symm
  refine ⟨h.lim, ?_, ?_⟩
  · show S.st k = true → 999 ≤ updI S.tot u _ k
    unfold updI
    rw [if_neg e]; exact h.st
  · show min _ 999 ≤ updI S.tot u _ k
    unfold updI
    rw [if_neg e]; exact h.tot
theorem Cn.set {S : EngS} {k m : Int} (h : Cn S k m) (t : Int) (x : Ob) (i q : Nat) (n : Int) (hw : S.weak t = false) (ho : (x.val i).1 = 3 → (x.val i).2 ≠ k) : Cn (setA S t x i q n) k (m + if q = 3 ∧ n = k then 1 else 0) := by
  have h1 : Cn (wrA S t x i q n) k m := h.of_eq rfl rfl rfl
  unfold setA
  rw [if_neg (by rw [hw]; decide)]
  by_cases hq : q = 3
  · have e : (m + if q = 3 ∧ n = k then 1 else 0) = m + if n = k then 1 else 0 := by simp [hq]
    rw [e, if_pos hq]
    by_cases hv : (x.val i).1 = 3
    · rw [if_pos hv]; exact (h1.up n).down _ (ho hv)
    · rw [if_neg hv]; exact h1.up n
  · have e : (m + if q = 3 ∧ n = k then 1 else 0) = m := by simp [hq]
    rw [e, if_neg hq]
    by_cases hv : (x.val i).1 = 3
    · rw [if_pos hv]; exact h1.down _ (ho hv)
    · rw [if_neg hv]; exact h1
theorem Cn.copy {S : EngS} {k m : Int} (h : Cn S k m) (t : Int) (c r : Nat) (f : Nat → Nat × Int) (hw : S.weak t = false) : ∀ i, Cn (copyA S t (newOb 4 c r) f i) k m
  | 0 => h
  | i + 1 => by
    have h2 := (h.copy t c r f hw i).set t (withVals (newOb 4 c r) f i) i (f i).1 (f i).2 (by rw [copyA_weak]; exact hw) (fun e => by
      have : ((withVals (newOb 4 c r) f i).val i).1 = 0 := by
        show (if i < i then f i else ((0 : Nat), (0 : Int))).1 = 0
        rw [if_neg (Nat.lt_irrefl _)]
      rw [this] at e; cases e)
    exact h2.less (by split <;> omega)
theorem makeA_weak (S : EngS) (L' : Al) (a kind cells raw : Nat) (h : kind ≠ 8) : (makeA S L' a kind cells raw).weak = S.weak := by
  unfold makeA
  show (if kind = 8 then _ else _) = _
  rw [if_neg h]
theorem Cn.pushNew {S : EngS} {k m : Int} (h : Cn S k m) {L' : Al} {t c : Nat} {f : Nat → Nat × Int} {hd : Int} {x : Ob} {q : Nat} {v : Int} (hw : S.weak = fun _ => false) (hkt : k ≠ (t : Int)) (hx : (x.val 1).1 = 3 → (x.val 1).2 ≠ k) : Cn (pushNewA S L' t f c 4 hd x q v) k (m + if q = 3 ∧ v = k then 1 else 0) := by
  have w1 : ∀ z, (makeA S L' t 4 (moreN c 4) 0).weak z = false := fun z => by
    rw [makeA_weak _ _ _ _ _ _ (by omega), hw]
  have h1 : Cn (makeA S L' t 4 (moreN c 4) 0) k m := h.of_eq rfl rfl rfl
  have h2 := h1.copy (t : Int) (moreN c 4) 0 f (w1 _) c
  have h3 := h2.set (t : Int) (withVals (newOb 4 (moreN c 4) 0) f c) c q v (by rw [copyA_weak]; exact w1 _) (fun e => by
    have : ((withVals (newOb 4 (moreN c 4) 0) f c).val c).1 = 0 := by
      show (if c < c then f c else ((0 : Nat), (0 : Int))).1 = 0
      rw [if_neg (Nat.lt_irrefl _)]
    rw [this] at e; cases e)
  have h4 := h3.set hd x 1 3 (t : Int) (by rw [setA_weak, copyA_weak]; exact w1 _) hx
  have h5 := h4.less (m' := m + if q = 3 ∧ v = k then 1 else 0) (by split <;> split <;> omega)
  exact h5.of_eq rfl rfl rfl
/-! ### a list as it is pushed, with the engine's whole state -/
section
variable {S : EngS} {h : Int} {f : Nat → Nat × Int} {n c : Nat} {s : Int}
theorem LS.other (A : LS S h f n c s) {S' : EngS} (e1 : S'.ob h = S.ob h) (e2 : 0 < c → S'.ob s = S.ob s) (e3 : ∀ m z, S.ob m = some z → ∃ z', S'.ob m = some z') (e4 : S'.L.ok = true) : LS S' h f n c s := by
  obtain ⟨x, B⟩ := A.ex
  refine ⟨⟨x, ⟨⟨e1.trans B.st.ob, B.st.two, B.st.none_, fun h0 => ?_⟩, B.kind, B.len, B.nc, B.c4⟩⟩, fun h0 => ?_, A.hs, e4, fun i hi => (A.vals i hi).more e3⟩
  · obtain ⟨y, y1, y2⟩ := (B.st.some_ h0).2
    exact ⟨(B.st.some_ h0).1, y, (e2 h0).trans y1, y2⟩
  · obtain ⟨y, y1, y2⟩ := A.st h0
    exact ⟨y, (e2 h0).trans y1, y2⟩
/-- What a push gives: counts of others, too. -/
def LPushC (o : Own) (w : World) (r p : Nat) (S : EngS) (h : Int) (f : Nat → Nat × Int) (n c : Nat) (s : Int) (q : Nat) (v : Int) (e : Ending) (w' : World) : Prop :=
  (∃ S' c' s', EngDo o w r p S' (.int .i64 0) e w' ∧ LS S' h (updF f n (q, v)) (n + 1) c' s' ∧ ((n < c ∧ c' = c ∧ S'.L = S.L) ∨ (n = c ∧ c' = moreN c 4 ∧ S'.L.n = S.L.n ∧ ∃ t, tookL S.L (wordsN (moreN c 4) 0) = some (S'.L, t))) ∧
    S'.weak = S.weak ∧ S'.lim = S.lim ∧ ∀ k z m, S.ob k = some z → z.kind = 1 → Cn S k m → S'.ob k = some z ∧ Cn S' k (m + if q = 3 ∧ v = k then 1 else 0)) ∨
  (n = c ∧ tookL S.L (wordsN (moreN c 4) 0) = none ∧ EngDo o w r p S (.int .i64 2) e w')
theorem setA_lim (S : EngS) (h : Int) (x : Ob) (k q : Nat) (n : Int) : (setA S h x k q n).lim = S.lim := by
  unfold setA
  split
  · rfl
  · split
    · split <;> rfl
    · split <;> rfl
theorem copyA_lim (S : EngS) (t : Int) (xt : Ob) (f : Nat → Nat × Int) : ∀ i, (copyA S t xt f i).lim = S.lim
  | 0 => rfl
  | i + 1 => by
    show (setA (copyA S t xt f i) t _ i _ _).lim = _
    rw [setA_lim, copyA_lim S t xt f i]
theorem pushNewA_ob_other (S : EngS) (L' : Al) (t c : Nat) (g : Nat → Nat × Int) (h : Int) (x : Ob) (q : Nat) (v m : Int) (h1 : m ≠ (t : Int)) (h2 : m ≠ h) : (pushNewA S L' t g c 4 h x q v).ob m = S.ob m := by
  unfold pushNewA
  show updI _ _ _ _ = _
  rw [setA_ob, setA_ob, copyA_ob (show (makeA S L' t 4 (moreN c 4) 0).ob (t : Int) = _ from if_pos rfl)]
  show updI (updI (updI (updI (updI S.ob _ _) _ _) _ _) _ _) _ _ _ = _
  unfold updI
  rw [if_neg h2, if_neg h2, if_neg h1, if_neg h1, if_neg h1]
theorem push_c {o : Own} {r p : Nat} (q : Nat) (v : Int) (w : World) (hr : 1 ≤ r) (ho : Owned o w) (E : EngRep o w r p S) (A : LS S h f n c s) (hn : n < 4000) (V : ValOk S q v) (hw : S.weak = fun _ => false) :
    Calls Tryz.prog 29 #[.pointer (some ⟨p, 0, none⟩), .int .i64 h, valV q v] w (LPushC o w r p S h f n c s q v) := by
  obtain ⟨x, B⟩ := A.ex
  by_cases hc : n < c
  · obtain ⟨y, hy, hyc, hk, h1, h2⟩ := A.st (by omega)
    have hy0 : (y.val n).1 ≠ 3 := by rw [h2 n (by omega) hc]; omega
    refine (push_has q v w hr ho E B hc hy hyc A.hs V hy0).mono fun e w' hh => .inl ⟨_, c, s, hh, A.has B hy hyc hk h1 h2 hc V, .inl ⟨hc, rfl, by show (setA S s y n q v).L = _; exact setA_L ..⟩, setA_weak .., setA_lim .., fun k z m hz hz1 C => ⟨?_, ?_⟩⟩
    · have e1 : k ≠ h := fun e => by rw [e, B.st.ob] at hz; cases hz; have := B.kind; omega
      have e2 : k ≠ s := fun e => by rw [e, hy] at hz; cases hz; omega
      show updI (setA S s y n q v).ob h _ k = _
      rw [setA_ob]
      unfold updI
      rw [if_neg e1, if_neg e2]; exact hz
    · exact (C.set s y n q v (by rw [hw]) (fun e => absurd e hy0)).of_eq rfl rfl rfl
  · obtain rfl : n = c := by have := B.nc; omega
    cases hT : tookL S.L (wordsN (moreN n 4) 0) with
    | none => exact (push_full q v w ho E B hn V A.ok hT).mono fun e w' hh => .inr ⟨rfl, hT, hh⟩
    | some x2 =>
      obtain ⟨L', t⟩ := x2
      have hy : ∃ y : Ob, (0 < n → S.ob s = some y ∧ y.cells = n ∧ y.kind = 4) ∧ ∀ i, i < n → y.val i = f i := by
        rcases Nat.eq_zero_or_pos n with h0 | h0
        · exact ⟨newOb 0 0 0, fun h => by omega, fun i hi => by omega⟩
        · obtain ⟨y, hy, hyc, hk, h1, h2⟩ := A.st h0
          exact ⟨y, fun _ => ⟨hy, hyc, hk⟩, h1⟩
      obtain ⟨y, hy, h1⟩ := hy
      exact (push_new q v L' t w hr ho E B hn (fun h0 => ⟨(hy h0).1, (hy h0).2.1⟩) V (fun i hi => by rw [h1 i hi]; exact ⟨(A.vals i hi).q3, (A.vals i hi).n64, (A.vals i hi).ref⟩) A.ok hT).mono fun e w' hh => by
        obtain ⟨hE, hnew, h64, h26, hok, hLn⟩ := hh
        have hL : (pushNewA S L' t y.val n 4 h x q v).L = L' := by
          show (setA (setA (copyA (makeA S L' t 4 (moreN n 4) 0) (t : Int) (newOb 4 (moreN n 4) 0) y.val n) (t : Int) (withVals (newOb 4 (moreN n 4) 0) y.val n) n q v) h x 1 3 (t : Int)).L = L'
          rw [setA_L, setA_L, copyA_L]
          rfl
        refine .inl ⟨_, moreN n 4, (t : Int), hE, A.grow B h1 hnew hok hn V, .inr ⟨rfl, rfl, by rw [hL]; exact hLn, t, by rw [hL, hT]⟩, ?_, ?_, fun k z m hz hz1 C => ⟨?_, ?_⟩⟩
        · show (setA (setA (copyA (makeA S L' t 4 (moreN n 4) 0) (t : Int) (newOb 4 (moreN n 4) 0) y.val n) (t : Int) (withVals (newOb 4 (moreN n 4) 0) y.val n) n q v) h x 1 3 (t : Int)).weak = _
          rw [setA_weak, setA_weak, copyA_weak, makeA_weak _ _ _ _ _ _ (by omega)]
        · show (setA (setA (copyA (makeA S L' t 4 (moreN n 4) 0) (t : Int) (newOb 4 (moreN n 4) 0) y.val n) (t : Int) (withVals (newOb 4 (moreN n 4) 0) y.val n) n q v) h x 1 3 (t : Int)).lim = _
          rw [setA_lim, setA_lim, copyA_lim]
          rfl
        · rw [pushNewA_ob_other _ _ _ _ _ _ _ _ _ _ (fun e => by rw [e, hnew] at hz; cases hz) (fun e => by rw [e, B.st.ob] at hz; cases hz; have := B.kind; omega)]
          exact hz
        · refine C.pushNew hw (fun e => by rw [e, hnew] at hz; cases hz) (fun e3 e => ?_)
          rcases Nat.eq_zero_or_pos n with h0 | h0
          · exact (B.st.none_ h0).1 e3
          · have es := (B.st.some_ h0).1
            rw [es] at e
            have e' : s = k := e
            rw [← e', (hy h0).1] at hz
            cases hz
            have := (hy h0).2.2
            omega
end
/-! ### the law's own state -/
def cntF (f : Nat → Nat × Int) (v : Int) : Nat → Int
  | 0 => 0
  | j + 1 => cntF f v j + if (f j).2 = v then 1 else 0
theorem cntF_le (f : Nat → Nat × Int) (v : Int) : ∀ k : Nat, 0 ≤ cntF f v k ∧ cntF f v k ≤ k
  | 0 => ⟨Int.le_refl _, Int.le_refl _⟩
  | j + 1 => by
    have := cntF_le f v j
    unfold cntF
    split <;> omega
theorem cntF_congr {f g : Nat → Nat × Int} {v : Int} : ∀ {k : Nat}, (∀ j, j < k → f j = g j) → cntF f v k = cntF g v k
  | 0, _ => rfl
  | j + 1, h => by
    unfold cntF
    rw [cntF_congr (k := j) (fun i hi => h i (by omega)), h j (by omega)]
/-- Cells of the store, and how many pages are gone at most. -/
def GH (c t : Nat) : Prop := (c = 0 ∧ t ≤ 8) ∨ (c = 4 ∧ t ≤ 9) ∨ (c = 8 ∧ t ≤ 10) ∨ (c = 16 ∧ t ≤ 11) ∨ (c = 32 ∧ t ≤ 13) ∨ (c = 64 ∧ t ≤ 16)
theorem GH.one {L : Al} {c c' k : Nat} (hm : moreN c 4 = c') (hk : (1 + 2 * c') / 64 + 1 = k) (ht : L.t + k ≤ L.n) (hb : ∀ t', t' ≤ L.t + k → GH c' t') : ∃ L' a, tookL L (wordsN (moreN c 4) 0) = some (L', a) ∧ GH (moreN c 4) L'.t := by
  rw [hm]
  have e : wordsN c' 0 = 1 + 2 * c' := rfl
  obtain ⟨L', a, h1, h2, h3⟩ := tookL_room L (wordsN c' 0) (by rw [e, hk]; exact ht)
  rw [e, hk] at h2
  exact ⟨L', a, h1, hb _ h2⟩
theorem GH.step {L : Al} {c : Nat} (h : GH c L.t) (hn : L.n = 60) (hc : c < 60) : ∃ L' a, tookL L (wordsN (moreN c 4) 0) = some (L', a) ∧ GH (moreN c 4) L'.t := by
  rcases h with ⟨rfl, h⟩ | ⟨rfl, h⟩ | ⟨rfl, h⟩ | ⟨rfl, h⟩ | ⟨rfl, h⟩ | ⟨rfl, h⟩
  · exact GH.one (c' := 4) (k := 1) (by decide) (by decide) (by omega) fun t' ht => .inr (.inl ⟨rfl, by omega⟩)
  · exact GH.one (c' := 8) (k := 1) (by decide) (by decide) (by omega) fun t' ht => .inr (.inr (.inl ⟨rfl, by omega⟩))
  · exact GH.one (c' := 16) (k := 1) (by decide) (by decide) (by omega) fun t' ht => .inr (.inr (.inr (.inl ⟨rfl, by omega⟩)))
  · exact GH.one (c' := 32) (k := 2) (by decide) (by decide) (by omega) fun t' ht => .inr (.inr (.inr (.inr (.inl ⟨rfl, by omega⟩))))
  · exact GH.one (c' := 64) (k := 3) (by decide) (by decide) (by omega) fun t' ht => .inr (.inr (.inr (.inr (.inr ⟨rfl, by omega⟩))))
  · omega
/-- Texts are made. -/
structure HM (o : Own) (w : World) (p a : Nat) (mk : List Int) : Prop where
  ex : ∃ S, EngRep o w 1 p S ∧ LS S (a : Int) (fun _ => (0, 0)) 0 0 0 ∧ S.L.n = 60 ∧ S.L.t ≤ 2 + mk.length ∧ S.weak = (fun _ => false) ∧ S.lim = 1000 ∧ S.st = (fun _ => false) ∧ S.tot = (fun _ => 0) ∧ ∀ k, k ∈ mk → ∃ z, S.ob k = some z ∧ z.kind = 1
  nd : mk.Nodup
  rng : ∀ k, k ∈ mk → 64 ≤ k ∧ k < 262144
theorem HM.keep {lo hi : Nat} {o o1 : Own} {w w1 : World} {p a : Nat} {mk : List Int} (G : HM o w p a mk) (F : Fr lo hi o o1 w w1) (h : 30 ≤ lo ∨ hi ≤ 1) : HM o1 w1 p a mk := by
  obtain ⟨⟨S, E, A⟩, h1, h2⟩ := G
  exact ⟨⟨S, E.keep F (by omega), A⟩, h1, h2⟩
theorem h_new {o : Own} {p : Nat} (w : World) (ho : Owned o w) (E : EngRep o w 1 p (newEng 60 1000)) :
    Calls Tryz.prog 28 #[.pointer (some ⟨p, 0, none⟩)] w fun e w' => ∃ a o', e = .returned (.tuple #[.int .i64 (a : Nat), .int .i64 0]) ∧ Fr 1 30 o o' w w' ∧ HM o' w' p a [] := by
  obtain ⟨L', a, hT, ht, _⟩ := tookL_room (newAl 60) (wordsN 2 0) (by show 1 + (5 / 64 + 1) ≤ 60; omega)
  refine (lnew L' a w (by omega) ho E rfl hT).mono fun e w' hh => ?_
  obtain ⟨⟨h1, o', F, E'⟩, hnew, h64, h26, hok', hLn⟩ := hh
  refine ⟨a, o', h1, F, ⟨_, E', LS.made h64 hok' _, hLn, ht, ?_, rfl, rfl, rfl, fun k hk => by cases hk⟩, List.nodup_nil, fun k hk => by cases hk⟩
  exact makeA_weak (newEng 60 1000) L' a 2 2 0 (by omega)
theorem h_text {o : Own} {p a : Nat} {mk : List Int} (A : Option Addr) (cap : Nat) (f : Nat → Nat) (w0 w : World) (F : Fr 0 0 o o w0 w) (G : HM o w0 p a mk) (hl : mk.length < 6) (B : BSl o w (.slice A 1 cap) 1 f) :
    Calls Tryz.prog 37 #[.pointer (some ⟨p, 0, none⟩), .slice A 1 cap] w fun e w' => ∃ (t : Nat) (o' : Own), e = .returned (.tuple #[.int .i64 (t : Nat), .int .i64 0]) ∧ Fr 1 30 o o' w0 w' ∧ HM o' w' p a (mk ++ [(t : Int)]) := by
  obtain ⟨⟨S, E, A1, hn, ht, hw, hlim, hst, htot, hk⟩, hnd, hrg⟩ := G
  obtain ⟨L', t, hT, ht2, _⟩ := tookL_room S.L (wordsN 0 1) (by show S.L.t + (2 / 64 + 1) ≤ S.L.n; omega)
  have ht3 : L'.t ≤ S.L.t + (2 / 64 + 1) := ht2
  refine (text_new A 1 cap f L' t w (by omega) (by omega) F.fresh (E.keep F (.inr (Nat.zero_le _))) A1.ok (by omega) hT B).mono fun e w' hh => ?_
  obtain ⟨⟨h1, o', F2, E'⟩, hnew, h64, h26, hok', hLn⟩ := hh
  have hob : ∀ m z, S.ob m = some z → (textA S L' t 1 f).ob m = some z := fun m z hz => by
    rw [textA_ob]
    unfold updI
    rw [if_neg (fun e => by rw [e, hnew] at hz; cases hz)]
    exact hz
  refine ⟨t, o', h1, (F.none 1 30).trans F2, ⟨_, E', ?_, hLn.trans hn, ?_, ?_, hlim, hst, htot, fun k hkm => ?_⟩, ?_, fun k hkm => ?_⟩
  · obtain ⟨x, Bx⟩ := A1.ex
    exact A1.other ((hob _ _ Bx.st.ob).trans Bx.st.ob.symm) (fun h => by omega) (fun m z hz => ⟨z, hob m z hz⟩) hok'
  · show L'.t ≤ _
    rw [List.length_append]
    show L'.t ≤ 2 + (mk.length + 1)
    omega
  · exact (makeA_weak S L' t 1 0 1 (by omega)).trans hw
  · rcases List.mem_append.1 hkm with hkm | hkm
    · obtain ⟨z, hz, hz1⟩ := hk k hkm
      exact ⟨z, hob k z hz, hz1⟩
    · obtain rfl := List.mem_singleton.1 hkm
      refine ⟨textOb 1 f, ?_, rfl⟩
      rw [textA_ob]
      exact if_pos rfl
  · refine List.nodup_append.2 ⟨hnd, by simp, fun x hx y hy e => ?_⟩
    obtain rfl := List.mem_singleton.1 hy
    subst e
    obtain ⟨z, hz, _⟩ := hk _ hx
    rw [hnew] at hz; cases hz
  · rcases List.mem_append.1 hkm with hkm | hkm
    · exact hrg k hkm
    · obtain rfl := List.mem_singleton.1 hkm
      omega
/-- Texts are pushed. -/
structure HL (o : Own) (w : World) (p a : Nat) (mk : List Int) (f : Nat → Nat × Int) (k : Nat) (ts : List Int) : Prop where
  ex : ∃ S c s, EngRep o w 1 p S ∧ LS S (a : Int) f k c s ∧ S.L.n = 60 ∧ GH c S.L.t ∧ S.weak = (fun _ => false) ∧ ∀ i, i < mk.length → ∃ z, S.ob (mk.getD i 0) = some z ∧ z.kind = 1 ∧ Cn S (mk.getD i 0) (ts.getD i 0)
  nd : mk.Nodup
  rng : ∀ k, k ∈ mk → 64 ≤ k ∧ k < 262144
  all : ∀ j, j < k → (f j).1 = 3
  cnt : ∀ i, i < mk.length → ts.getD i 0 = cntF f (mk.getD i 0) k
  tl : ts.length = mk.length
theorem HL.keep {lo hi : Nat} {o o1 : Own} {w w1 : World} {p a k : Nat} {mk ts : List Int} {f : Nat → Nat × Int} (G : HL o w p a mk f k ts) (F : Fr lo hi o o1 w w1) (h : 30 ≤ lo ∨ hi ≤ 1) : HL o1 w1 p a mk f k ts := by
  obtain ⟨⟨S, c, s, E, A⟩, h1, h2, h3, h4, h5⟩ := G
  exact ⟨⟨S, c, s, E.keep F (by omega), A⟩, h1, h2, h3, h4, h5⟩
theorem getD_mem {l : List Int} {i : Nat} (h : i < l.length) : l.getD i 0 ∈ l := by simp [List.getD, h]
theorem getD_inj {l : List Int} (hn : l.Nodup) {i j : Nat} (hi : i < l.length) (hj : j < l.length) (e : l.getD i 0 = l.getD j 0) : i = j := by
  simp only [List.getD, List.getElem?_eq_getElem hi, List.getElem?_eq_getElem hj, Option.getD_some] at e
  have hp := List.pairwise_iff_getElem.1 hn
  rcases Nat.lt_trichotomy i j with h | h | h
  · exact absurd e (hp i j hi hj h)
  · exact h
  · exact absurd e.symm (hp j i hj hi h)
theorem getD_set_ {l : List Int} {i j : Nat} {x : Int} (hi : i < l.length) : (l.set i x).getD j 0 = if j = i then x else l.getD j 0 := by
  by_cases h : j = i
  · subst h; simp [List.getD, hi]
  · simp [List.getD, h, List.getElem?_set_ne (Ne.symm h)]
theorem HM.start {o : Own} {w : World} {p a : Nat} {mk ts : List Int} (G : HM o w p a mk) (h6 : mk.length ≤ 6) (hl : ts.length = mk.length) (hz : ∀ i, ts.getD i 0 = 0) : HL o w p a mk (fun _ => (0, 0)) 0 ts := by
  obtain ⟨⟨S, E, A1, hn, ht, hw, hlim, hst, htot, hk⟩, hnd, hrg⟩ := G
  refine ⟨⟨S, 0, 0, E, A1, hn, .inl ⟨rfl, by omega⟩, hw, fun i hi => ?_⟩, hnd, hrg, fun j hj => absurd hj (by omega), fun i hi => hz i, hl⟩
  obtain ⟨z, h1, h2⟩ := hk _ (getD_mem hi)
  exact ⟨z, h1, h2, hlim, (fun e => by rw [hst] at e; cases e), by rw [hz i, htot]; show min 0 999 ≤ (0 : Int); omega⟩
theorem h_push {o : Own} {p a k : Nat} {mk ts : List Int} {f : Nat → Nat × Int} (i : Nat) (w0 w : World) (F : Fr 0 0 o o w0 w) (G : HL o w0 p a mk f k ts) (hi : i < mk.length) (hk : k < 60) :
    Calls Tryz.prog 29 #[.pointer (some ⟨p, 0, none⟩), .int .i64 (a : Nat), valV 3 (mk.getD i 0)] w fun e w' => ∃ o', e = .returned (.int .i64 0) ∧ Fr 1 30 o o' w0 w' ∧ HL o' w' p a mk (updF f k (3, mk.getD i 0)) (k + 1) (ts.set i (ts.getD i 0 + 1)) := by
  obtain ⟨⟨S, c, s, E, A, hn, hb, hw, hcn⟩, hnd, hrg, hall, hts, htl⟩ := G
  have hkc : k ≤ c := by obtain ⟨⟨x, B⟩, _⟩ := A; exact B.nc
  obtain ⟨zi, hzi, _⟩ := hcn i hi
  have hri := hrg _ (getD_mem hi)
  have V : ValOk S 3 (mk.getD i 0) := ⟨Nat.le_refl _, by unfold in64; omega, fun _ => ⟨zi, hzi⟩⟩
  refine (push_c 3 (mk.getD i 0) w (by omega) F.fresh (E.keep F (.inr (Nat.zero_le _))) A (by omega) V hw).mono fun e w' hh => ?_
  rcases hh with ⟨S', c', s', ⟨h1, o', F2, E'⟩, hls, hcase, hw', hlim', hoth⟩ | ⟨h, hT2, _⟩
  · have hres : S'.L.n = 60 ∧ GH c' S'.L.t := by
      rcases hcase with ⟨_, rfl, hL⟩ | ⟨h, rfl, hLn, t, hT⟩
      · rw [hL]; exact ⟨hn, hb⟩
      · obtain ⟨L', t', hT', hb2⟩ := GH.step hb hn (by omega)
        rw [hT'] at hT
        cases hT
        exact ⟨hLn.trans hn, hb2⟩
    refine ⟨o', h1, (F.none 1 30).trans F2, ⟨S', c', s', E', hls, hres.1, hres.2, hw'.trans hw, fun j hj => ?_⟩, hnd, hrg, fun j hj => ?_, fun j hj => ?_, by rw [List.length_set]; exact htl⟩
    · obtain ⟨z, hz, hz1, C⟩ := hcn j hj
      obtain ⟨g1, g2⟩ := hoth _ z _ hz hz1 C
      refine ⟨z, g1, hz1, g2.less ?_⟩
      rw [getD_set_ (by omega)]
      by_cases e : j = i
      · subst e; rw [if_pos rfl, if_pos ⟨rfl, rfl⟩]; exact Int.le_refl _
      · rw [if_neg e]; split <;> omega
    · unfold updF
      split
      · rfl
      · exact hall j (by omega)
    · rw [getD_set_ (by omega)]
      show _ = cntF (updF f k _) _ k + if (updF f k (3, mk.getD i 0) k).2 = mk.getD j 0 then 1 else 0
      rw [cntF_congr (g := f) (fun j' hj' => by unfold updF; rw [if_neg (by omega)])]
      unfold updF
      rw [if_pos rfl]
      by_cases e : j = i
      · subst e; rw [if_pos rfl, if_pos rfl, hts j hj]
      · rw [if_neg e, if_neg (fun e2 => e (getD_inj hnd hi hj e2).symm), hts j hj]; omega
  · obtain ⟨L', t, hT, hb2⟩ := GH.step hb hn (by omega)
    rw [hT] at hT2; cases hT2
theorem refs_list {g f : Nat → Nat × Int} {k c : Nat} (h1 : ∀ i, i < k → g i = f i) (h2 : ∀ i, k ≤ i → i < c → (g i).1 = 0) (h3 : ∀ i, i < k → (f i).1 = 3) : ∀ i, i ≤ c → refsN g i = (List.range (min i k)).map fun j => (f j).2
  | 0, _ => by simp [refsN]
  | i + 1, hi => by
    show refsN g i ++ _ = _
    rw [refs_list h1 h2 h3 i (by omega)]
    by_cases hik : i < k
    · rw [if_pos (by rw [h1 i hik]; exact h3 i hik), show min i k = i by omega, show min (i + 1) k = i + 1 by omega, List.range_succ, List.map_append, h1 i hik]
      rfl
    · rw [if_neg (by rw [h2 i (by omega) (by omega)]; omega), List.append_nil, show min i k = k by omega, show min (i + 1) k = k by omega]
/-- What is read at the end. -/
def HRead (o : Own) (w : World) (p a : Nat) (mk : List Int) (f : Nat → Nat × Int) (k : Nat) (ts : List Int) (q z : Int) (R : List Int) : Prop :=
  ((q = 3 ∧ R = (List.range k).map fun j => (f j).2) ∨ (q ≠ 3 ∧ k = 0)) ∧ R.length ≤ 4000 ∧
  (∀ w1, Fr 0 0 o o w w1 → Calls Tryz.prog 30 #[.pointer (some ⟨p, 0, none⟩), .int .i64 (a : Nat), .int .i64 1] w1 fun e w' => e = .returned (.tuple #[valV q z, .int .i64 0]) ∧ Below w1.heap.size w1 w') ∧
  (∀ w1, Fr 0 0 o o w w1 → Calls Tryz.prog 38 #[.pointer (some ⟨p, 0, none⟩), .int .i64 z] w1 (RowPostN o w1 R)) ∧
  ∀ i, i < mk.length → ∀ w1, Fr 0 0 o o w w1 → Calls Tryz.prog 39 #[.pointer (some ⟨p, 0, none⟩), .int .i64 (mk.getD i 0)] w1 fun e w' => ∃ (c : Int) (b : Bool), min (ts.getD i 0) 999 ≤ c ∧ e = .returned (.tuple #[.int .i64 c, .bool b]) ∧ Below w1.heap.size w1 w'
theorem HL.read {o : Own} {w : World} {p a k : Nat} {mk ts : List Int} {f : Nat → Nat × Int} (G : HL o w p a mk f k ts) : ∃ q z R, HRead o w p a mk f k ts q z R := by
  obtain ⟨⟨S, c, s, E, A, hn, hb, hw, hcn⟩, hnd, hrg, hall, hts, htl⟩ := G
  obtain ⟨x, B⟩ := A.ex
  have hcl := fun (w1 : World) (F : Fr 0 0 o o w w1) => rcell (a : Int) 1 w1 F.fresh (E.keep F (.inr (Nat.zero_le _)))
  rw [cellA_in B.st.ob (show (1 : Int) = (1 : Nat) from rfl) (by rw [B.st.two]; omega)] at hcl
  have hrf := fun (z : Int) (w1 : World) (F : Fr 0 0 o o w w1) => rrefs z w1 (by omega) F.fresh (E.keep F (.inr (Nat.zero_le _)))
  have hct : ∀ i, i < mk.length → ∀ w1, Fr 0 0 o o w w1 → Calls Tryz.prog 39 #[.pointer (some ⟨p, 0, none⟩), .int .i64 (mk.getD i 0)] w1 fun e w' => ∃ (c : Int) (b : Bool), min (ts.getD i 0) 999 ≤ c ∧ e = .returned (.tuple #[.int .i64 c, .bool b]) ∧ Below w1.heap.size w1 w' := fun i hi w1 F => by
    obtain ⟨z, hz, _, C⟩ := hcn i hi
    exact (rcount _ z w1 F.fresh (E.keep F (.inr (Nat.zero_le _))) hz).mono fun e w' hh => ⟨_, _, C.tot, hh.1, hh.2⟩
  have hlen : ∀ z, (refsA S z).length ≤ 4000 := fun z => by
    unfold refsA
    split
    · exact Nat.zero_le _
    · split
      · rename_i y hy
        have h1 := refsN_len y.val y.cells
        have h2 := cellsA_le E z
        rw [cellsA_of hy] at h2
        omega
      · exact Nat.zero_le _
  rcases Nat.eq_zero_or_pos c with h0 | h0
  · have hk0 : k = 0 := by have := B.nc; omega
    exact ⟨_, _, _, .inr ⟨by have := (B.st.none_ h0).1; omega, hk0⟩, hlen _, hcl, hrf _, hct⟩
  · have es := (B.st.some_ h0).1
    obtain ⟨y, hy, hyc, hyk, h1, h2⟩ := A.st h0
    rw [es] at hcl
    have hR : refsA S s = (List.range k).map fun j => (f j).2 := by
      unfold refsA
      rw [if_neg (by rw [hw]; exact Bool.false_ne_true), hy]
      show refsN y.val y.cells = _
      rw [refs_list h1 (fun i a b => h2 i a (by omega)) hall y.cells (by omega), show min y.cells k = k by have := B.nc; omega]
    exact ⟨3, s, _, .inl ⟨rfl, hR⟩, hlen _, hcl, hrf _, hct⟩
end Go.Proofs.YtlpklloagaccoaaGreat
namespace Go.Proofs.YtlpklloagaccoaaGreat
open Go.RowKit
set_option linter.unusedVariables false

set_option maxRecDepth 100000 in
theorem holds_out (n : Int) (a1 : Option Addr) (m c1 : Nat) (w : World) (h : ¬ (1 ≤ n ∧ n ≤ 6 ∧ m ≤ 60)) (h2 : m ≤ maxLen) :
    Calls Tryz.prog 6 #[.int .i64 n, .slice a1 m c1] w fun e w' => e = .returned (.bool true) ∧ Below w.heap.size w w' := by
  have HA := Lib.hid (alive17 w)
  unfold maxLen at h2
  have hn : n < 1 ∨ (¬ n < 1 ∧ 6 < n) ∨ (¬ n < 1 ∧ ¬ 6 < n ∧ 60 < (m : Int)) := by omega
  clear h
  rcases hn with h0 | ⟨h0, h3⟩ | ⟨h0, h3, h4⟩
  all_goals
    go_enter Tryz.func6, Tryz.ntmps6
    go_wp2_with fail
    go_at_call 26
    refine HA.out.mono ?_
    rintro e w1 ⟨rfl, hb⟩
    have HB := Lib.hid hb
    clear hb
    go_wp2_with fail
    go_ret
    exact ⟨rfl, HB.out⟩
theorem run_makeInts (n : Nat) (h : n ≤ 1000000) (W : World) : (Instr.makeSlice 38 (.int .i64 (n : Nat)) (.int .i64 (n : Nat))).run Tryz.prog W = .ok (.slice (some ⟨W.heap.size, 0, none⟩) n n) (W.alloc (.cells (madeCells #[Value.int .i64 0] n) 3)) := by
  obtain ⟨i8, hi8, hz8, hs8, hb8⟩ := info_parts infoInt
  have := run_make (P := Tryz.prog) W 38 3 i8 (.int .i64 0) Tryz.underlying38 hi8 hz8 .i64 .i64 (n : Nat) (n : Nat) (by omega) (Int.le_refl _) (by rw [hb8]; omega) (by omega)
  rw [Int.toNat_natCast, hs8, Nat.mul_one] at this
  exact this
theorem LRow.made {o : Own} {w : World} (ho : Owned o w) (r n : Nat) (h : n ≤ 1000000) : Fr r (r + 1) o (o.give w.heap.size r) w (w.alloc (.cells (madeCells #[Value.int .i64 0] n) 3)) ∧ LRow (o.give w.heap.size r) (w.alloc (.cells (madeCells #[Value.int .i64 0] n) 3)) r (.slice (some ⟨w.heap.size, 0, none⟩) n n) (List.replicate n 0) := by
  have hb := heap_alloc_new w (.cells (madeCells #[Value.int .i64 0] n) 3)
  refine ⟨(Fr.refl ho).give _ r, ?_, fun g hg => ?_⟩
  · refine ⟨by simp, .inr ⟨w.heap.size, n, _, by simp, Nat.zero_le _, hb, by simp, by unfold maxLen; omega, by rw [size_madeCells]; simp, ?_⟩⟩
    have h2 := toList_madeCells_one (.int .i64 0) n
    rw [h2]
    simp
  · simp only [Value.ownBlock, Option.some.injEq] at hg
    subst hg
    simp [Own.give]
theorem BSl.one {o : Own} {w : World} (ho : Owned o w) (x : Nat) (hx : x < 256) {a : Nat} (ha : a = w.heap.size) : BSl o (w.alloc (.cells #[.int .u8 (x : Nat)] 5)) (.slice (some ⟨a, 0, none⟩) 1 1) 1 (fun _ => x) := by
  subst ha
  have hb := heap_alloc_new w (.cells #[.int .u8 (x : Nat)] 5)
  refine ⟨_, _, rfl, Nat.le_refl _, fun _ _ => hx, .inr ⟨_, 0, rfl, by simp, .inl (ho _ (Nat.le_refl _)), fun i hi => ?_⟩⟩
  obtain rfl : i = 0 := by omega
  simp only [World.cell?, hb]; rfl
theorem Grew.fr0 {o : Own} {w w1 w2 : World} {x : Obj} (h : Grew o w x w1) (k : Fr 0 0 o o w1 w2) : Grew o w x w2 := ⟨h.fr.trans k, (k.block _ (lt_of_block h.x_) (.inr (Nat.zero_le _))).trans h.x_⟩
def cntR (R : List Int) (v : Int) : Nat → Int
  | 0 => 0
  | j + 1 => cntR R v j + if R.getD j 0 = v then 1 else 0
theorem cntR_le (R : List Int) (v : Int) : ∀ k : Nat, 0 ≤ cntR R v k ∧ cntR R v k ≤ k
  | 0 => ⟨Int.le_refl _, Int.le_refl _⟩
  | j + 1 => by
    have := cntR_le R v j
    unfold cntR
    split <;> omega
theorem cntR_map (f : Nat → Nat × Int) (v : Int) (k : Nat) : ∀ j, j ≤ k → cntR ((List.range k).map fun j => (f j).2) v j = cntF f v j
  | 0, _ => rfl
  | j + 1, h => by
    unfold cntR cntF
    rw [cntR_map f v k j (by omega)]
    have : ((List.range k).map fun j => (f j).2).getD j 0 = (f j).2 := by
      have hj : j < k := by omega
      simp [List.getD, hj]
    rw [this]
set_option maxRecDepth 100000 in
set_option maxHeartbeats 2000000 in
theorem holds_in (n : Nat) (a1 : Option Addr) (m c1 : Nat) (l : List Int) (w : World) (hn1 : 1 ≤ n) (hn : n ≤ 6) (hm : m ≤ 60) (R1 : RdS w w.heap.size .i64 a1 m l) :
    Calls Tryz.prog 6 #[.int .i64 (n : Nat), .slice a1 m c1] w fun e w' => e = .returned (.bool true) ∧ Below w.heap.size w w' := by
  have HA := Lib.hid (alive17 w)
  have HN := Lib.hid (fun (o : Own) (w1 : World) (ho : Owned o w1) => show Calls Tryz.prog 27 #[.int .i64 60, .int .i64 0, .int .i64 1000] w1 (EngNew o w1 1 60 1000) from eng_new 1 60 1000 w1 ho (by omega) (by omega) (by omega) (by omega))
  have HR1 := Lib.hid R1
  have HNN := Lib.hid (And.intro hn1 (And.intro hn hm))
  have h0 : ¬ (n : Int) < 1 := by omega
  have h1 : ¬ 6 < (n : Int) := by omega
  have h2 : ¬ 60 < (m : Int) := by omega
  have hmk := run_makeInts n (by omega)
  clear hn hm hn1 R1
  go_enter Tryz.func6, Tryz.ntmps6
  go_wp2_with fail
  go_at_call 26
  refine HA.out.mono ?_
  rintro e w1 ⟨rfl, hb⟩
  have HF1 := Lib.hid (LF.of_below hb)
  clear hb
  go_wp2_with fail
  go_at_call 27
  refine (HN.out _ _ HF1.out.fresh).mono ?_
  rintro e w2 ⟨p, o2, rfl, F2, E2⟩
  have HF2 := Lib.hid (HF1.out.fr F2 (by omega))
  have HE2 := Lib.hid E2
  clear F2 E2
  go_wp2_with fail
  go_at_call 28
  refine (h_new _ HF2.out.fresh HE2.out).mono ?_
  rintro e w3 ⟨a, o3, rfl, F3, G3⟩
  have HF3 := Lib.hid (HF2.out.fr F3 (by omega))
  have HG3 := Lib.hid G3
  clear F3 G3
  go_wp2_with fail
  go_loopw [9, 10] (fun vv iv wr => ∃ (o' : Own) (mk : List Int), mk.length ≤ n ∧ iv = .int .i64 (mk.length : Nat) ∧ LF w o' wr ∧ HM o' wr p a mk ∧ LRow o' wr 40 vv mk) (fun _ iv _ => n - (intOf iv).toNat)
  case atStart => exact ⟨o3, [], by simp, rfl, HF3.out, HG3.out, LRow.nil _ _ _⟩
  case round =>
    obtain ⟨oi, mk, hi, rfl, Fi, Gi, Ri⟩ := hrel
    have HL6 := Lib.hid hi
    by_cases hin : mk.length < n
    · have hin' : ((mk.length : Nat) : Int) < (n : Int) := by omega
      have HFi := Lib.hid Fi
      have HGi := Lib.hid Gi
      have HRi := Lib.hid Ri
      have hu8 : IntKind.u8.wrap ((mk.length : Nat) : Int) = ((mk.length : Nat) : Int) := by rw [IntKind.wrap_u8]; omega
      clear Fi Gi Ri hi
      generalize hlen : mk.length = i at *
      have HLEN := Lib.hid hlen
      clear hlen
      go_wp2_with fail
      go_at_call 37
      refine (h_text _ _ (fun _ => i) wr _ (by repeat (first | exact Fr.refl HFi.out.fresh | refine Fr.drew ?_ | refine Fr.alloc ?_ _)) HGi.out (by have := HLEN.out; have := HNN.out; omega) (BSl.one HFi.out.fresh i (by have := HNN.out; omega) rfl)).mono ?_
      rintro e w5 ⟨t, o5, rfl, F5, G5⟩
      have HF5 := Lib.hid (HFi.out.fr F5 (by omega))
      have HG5 := Lib.hid G5
      have HR5 := Lib.hid (HRi.out.keep F5 (.inr (by omega)))
      clear F5 G5
      go_wp2_with (at_builtin; refine wpList_append_row _ rfl _ _ _ rfl Tryz.underlying38 (own := o5) (by first | exact HF5.out.fresh | exact (HF5.out.alloc _).fresh) 40 rfl (HR5.out.keep (lo := 0) (hi := 0) ((Fr.refl HF5.out.fresh).alloc _) (.inr (by omega))) rfl (RdS.one _ .i64 _ _ (by simp)) (by have := HLEN.out; have := HNN.out; omega) ?_; intro vw w6 o6 F6 R6; have HF6 := Lib.hid ((HF5.out.alloc _).fr F6 (by omega)); have HR6 := Lib.hid R6; have HG6 := Lib.hid ((HG5.out.keep (lo := 0) (hi := 0) ((Fr.refl HF5.out.fresh).alloc _) (.inr (by omega))).keep F6 (.inl (by omega))); clear F6 R6)
      refine ⟨⟨o6, mk ++ [(t : Int)], by rw [List.length_append, HLEN.out]; show i + 1 ≤ n; omega, by rw [List.length_append, HLEN.out]; go_num, HF6.out, HG6.out, HR6.out⟩, by simp [intOf]; omega⟩
    · have hin' : ¬ ((mk.length : Nat) : Int) < (n : Int) := by omega
      have hlen : mk.length = n := by omega
      have HLEN := Lib.hid hlen
      have HFi := Lib.hid Fi
      have HGi := Lib.hid Gi
      have HRi := Lib.hid Ri
      rw [hlen] at hin' ⊢
      clear Fi Gi Ri hi hin hlen
      go_wp2_with fail
      obtain ⟨wo, rfl⟩ : ∃ wo : World, wo = wr := ⟨_, rfl⟩
      have hM := LRow.made HFi.out.fresh 41 n (by have := HNN.out; omega)
      have HFM := Lib.hid (HFi.out.fr hM.1 (by omega))
      have HRM := Lib.hid (HRi.out.keep hM.1 (.inl (by omega)))
      have HTM := Lib.hid hM.2
      have HGM := Lib.hid ((HGi.out.keep hM.1 (.inl (by omega))).start (ts := List.replicate n 0) (by have := HLEN.out; have := HNN.out; omega) (by simp; exact HLEN.out.symm) (fun i => by simp [List.getD, List.getElem?_replicate]; split <;> rfl))
      clear hM
      generalize htv : Value.slice (some ⟨wo.heap.size, 0, none⟩) n n = tv at *
      generalize hww : wo.alloc (.cells (madeCells #[Value.int .i64 0] n) 3) = ww at *
      clear htv hww hmk
      go_loopw [14] (fun iv wr => ∃ (j : Nat) (o' : Own) (f : Nat → Nat × Int) (ts : List Int), j ≤ m ∧ iv = .int .i64 j ∧ LF w o' wr ∧ HL o' wr p a mk f j ts ∧ LRow o' wr 40 u9 mk ∧ LRow o' wr 41 tv ts) (fun iv _ => m - (intOf iv).toNat)
      case atStart => exact ⟨0, _, _, _, by omega, rfl, HFM.out, HGM.out, HRM.out, HTM.out⟩
      case round =>
        obtain ⟨j, oj, f, ts, hj, rfl, Fj, Gj, Rj, Tj⟩ := hrel
        by_cases hjm : j < m
        · have hjm' : (j : Int) < (m : Int) := by omega
          obtain ⟨b1, f1, ha1, hb1, hc1⟩ := (HR1.out.lf Fj).at_ hjm
          obtain ⟨k1, hk1, hk5⟩ := and_low (l.getD j 0) 1023 (by omega)
          have hk1' : bits .and .i64 (l.getD j 0) 1023 = (k1 : Int) := hk1
          obtain ⟨k, hk, hkn⟩ : ∃ k : Nat, (k1 : Int) % (n : Int) = (k : Int) ∧ k < n := ⟨k1 % n, by simp, Nat.mod_lt _ (by have := HNN.out; omega)⟩
          have hkn' : (k : Int) < (n : Int) := by omega
          obtain ⟨A2, cap2, hv2, R2⟩ := Rj.rd
          rw [HLEN.out] at hv2 R2
          obtain ⟨b2, f2, hA2, hb2, hc2⟩ := R2.at_ hkn
          have htk : 0 ≤ ts.getD k 0 ∧ ts.getD k 0 ≤ 60 := by
            have h3 := Gj.cnt k (by rw [HLEN.out]; exact hkn)
            have h4 := cntF_le f (mk.getD k 0) j
            have h5 := HNN.out
            omega
          obtain ⟨ht0, ht1⟩ := htk
          have n0 : (0 : Int) < (n : Int) := by omega
          have n1 : (n : Int) ≤ 6 := by have := HNN.out; omega
          have q0 : (0 : Int) ≤ (k1 : Int) := by omega
          have q1 : (k1 : Int) ≤ 1023 := by omega
          have HFj := Lib.hid Fj
          have HGj := Lib.hid Gj
          have HRj := Lib.hid Rj
          have HTj := Lib.hid Tj
          have HP := Lib.hid (fun (w5 : World) (F : Fr 0 0 oj oj wr w5) => h_push k wr w5 F HGj.out (by rw [HLEN.out]; exact hkn) (by have := HNN.out; omega))
          subst ha1
          subst hA2
          subst hv2
          clear Fj Gj Rj Tj hk1 R2 hj hk5
          generalize l.getD j 0 = x at *
          generalize hmk2 : mk.getD k 0 = mkk at *
          go_wp2_with fail
          go_at_call 29
          refine (HP.out _ (by repeat (first | exact Fr.refl HFj.out.fresh | refine Fr.drew ?_ | refine Fr.alloc ?_ _))).mono ?_
          rintro e w5 ⟨o5, rfl, F5, G5⟩
          have HF5 := Lib.hid (HFj.out.fr F5 (by omega))
          have HG5 := Lib.hid G5
          have HR5 := Lib.hid (HRj.out.keep F5 (.inr (by omega)))
          have T5 := HTj.out.keep F5 (.inr (by omega))
          have htl : ts.length = n := HGj.out.tl.trans HLEN.out
          obtain ⟨gb, cap, hv, hcv, hfz, hset⟩ := T5.set HF5.out.fresh (i := k) (by rw [htl]; exact hkn)
          rw [htl] at hv hcv
          have hck := hcv k hkn
          have HS := Lib.hid hset
          clear F5 G5 T5 hset htl hmk2 hcv
          subst hv
          generalize ts.getD k 0 = tk at *
          go_wp2_with (go_at_call 31; refine (num17 _ _).mono ?_; rintro e w' ⟨rfl, rfl⟩)
          obtain ⟨F6, T6⟩ := HS.out (tk + 1)
          exact ⟨⟨j + 1, o5, _, _, by omega, by go_num, HF5.out.fr F6 (by omega), HG5.out.keep F6 (.inl (by omega)), HR5.out.keep F6 (.inl (by omega)), T6⟩, by simp [intOf]; omega⟩
        · have hjm' : ¬ (j : Int) < (m : Int) := by omega
          obtain ⟨wq, rfl⟩ : ∃ wq : World, wq = wr := ⟨_, rfl⟩
          obtain ⟨q, z, R, hcase, hRl, hCell, hRefs, hCount⟩ := Gj.read
          have HGot : Hid (∀ i, i < n → (q = 3 → cntR R (mk.getD i 0) R.length = ts.getD i 0) ∧ (q ≠ 3 → ts.getD i 0 = 0) ∧ 0 ≤ ts.getD i 0 ∧ ts.getD i 0 ≤ 60) := Lib.hid fun i hi => by
            have h3 := Gj.cnt i (by rw [HLEN.out]; exact hi)
            have h4 := cntF_le f (mk.getD i 0) j
            have h5 := HNN.out
            rcases hcase with ⟨hq, hR⟩ | ⟨hq, hk⟩
            · refine ⟨fun _ => ?_, fun h => absurd hq h, by omega, by omega⟩
              rw [h3, hR]
              rw [show ((List.range j).map fun j => (f j).2).length = j by simp]
              exact cntR_map f _ j j (Nat.le_refl _)
            · exact ⟨fun h => absurd h hq, fun _ => by rw [h3, hk]; rfl, by omega, by omega⟩
          have htl : ts.length = n := Gj.tl.trans HLEN.out
          have HTL := Lib.hid htl
          have HC := Lib.hid hCell
          have HRf := Lib.hid hRefs
          have HCt := Lib.hid hCount
          have HRL := Lib.hid hRl
          have HFj := Lib.hid Fj
          have HRj := Lib.hid Rj
          have HTj := Lib.hid Tj
          obtain ⟨A2, cap2, hv2, hR2⟩ := Rj.rd
          rw [HLEN.out] at hv2 hR2
          have HR2 := Lib.hid hR2
          obtain ⟨A4, cap4, hv4, hT2⟩ := Tj.rd
          rw [htl] at hv4 hT2
          have HT2 := Lib.hid hT2
          clear Fj Gj Rj Tj hcase hCell hRefs hCount hRl htl hj hjm hR2 hT2 HRj HTj
          subst hv2
          subst hv4
          go_wp2_with fail
          go_at_call 30
          refine (HC.out _ (by repeat (first | exact Fr.refl HFj.out.fresh | refine Fr.drew ?_ | refine Fr.alloc ?_ _))).mono ?_
          rintro e w6 ⟨rfl, hb⟩
          have HF6 := Lib.hid ((Fr.refl (lo := 0) (hi := 0) HFj.out.fresh).below hb)
          clear hb
          go_wp2_with fail
          go_loopw [18] (fun iv wr => ∃ i : Nat, i ≤ n ∧ iv = .int .i64 i ∧ Grew oj w6 (vX q z) wr) (fun iv _ => n - (intOf iv).toNat)
          case atStart => exact ⟨0, by omega, rfl, Grew.base HF6.out.fresh _⟩
          case round =>
            obtain ⟨i, hi, rfl, Gw⟩ := hrel
            by_cases hin2 : i < n
            · have hin2' : (i : Int) < (n : Int) := by omega
              have X := Gw.x_
              unfold vX at X
              have x1 : wr.cell? ⟨w6.heap.size, 1, none⟩ = some (.int .i64 z) := by simp [World.cell?, X]
              have HG := Lib.hid Gw
              clear Gw X hi
              go_wp2_with fail
              go_at_call 38
              refine (HRf.out _ (HF6.out.trans HG.out.fr)).mono ?_
              rintro e w7 ⟨vr, rfl, F7, R7⟩
              have HG7 := Lib.hid (HG.out.fr0 F7)
              have HR7 := Lib.hid R7.row
              clear F7 R7
              obtain ⟨Ar, capr, hvr, hRR⟩ := HR7.out.rd
              have HRR := Lib.hid hRR
              subst hvr
              clear hRR
              go_wp2_with fail
              go_loopw [19, 21] (fun gv jv wr => ∃ j : Nat, j ≤ R.length ∧ jv = .int .i64 j ∧ gv = .int .i64 (cntR R (mk.getD i 0) j) ∧ (q = 3 ∨ j = 0) ∧ Fr 0 0 oj oj w7 wr) (fun _ jv _ => R.length - (intOf jv).toNat)
              case atStart => exact ⟨0, by omega, rfl, rfl, .inr rfl, Fr.refl HG7.out.fr.fresh⟩
              case round =>
                obtain ⟨y, hy, rfl, rfl, hq0, Fy⟩ := hrel
                have HGy := Lib.hid (HG7.out.fr0 Fy)
                have X := HGy.out.x_
                unfold vX at X
                have x0 : wr.cell? ⟨w6.heap.size, 0, none⟩ = some (.int .i64 q) := by simp [World.cell?, X]
                have hRl4 : ((R.length : Nat) : Int) ≤ 4000 := by have := HRL.out; omega
                have hcr := cntR_le R (mk.getD i 0) y
                obtain ⟨b2, f2, hA2, hb2, hc2⟩ := (HR2.out.keep (w' := wr) fun b hb => ((HF6.out.trans HGy.out.fr).block b hb (.inr (Nat.zero_le _)))).at_ hin2
                have hb2 : b2 < wr.heap.size := Nat.lt_of_lt_of_le hb2 (HF6.out.trans HGy.out.fr).size
                have HFy := Lib.hid Fy
                by_cases hq3 : q = 3
                · subst hq3
                  by_cases hyR : y < R.length
                  · have hyR' : (y : Int) < ((R.length : Nat) : Int) := by omega
                    obtain ⟨b3, f3, hA3, hb3, hc3⟩ := (HRR.out.keep (w' := wr) fun b hb => Fy.block b hb (.inr (Nat.zero_le _))).at_ hyR
                    have hb3 : b3 < wr.heap.size := Nat.lt_of_lt_of_le hb3 Fy.size
                    have HSuc := Lib.hid (show cntR R (mk.getD i 0) (y + 1) = cntR R (mk.getD i 0) y + if R.getD y 0 = mk.getD i 0 then 1 else 0 from rfl)
                    subst hA3
                    subst hA2
                    have hc0 : 0 ≤ cntR R (mk.getD i 0) y := hcr.1
                    have hc4 : cntR R (mk.getD i 0) y ≤ 4000 := by have := hcr.2; omega
                    clear X hcr Fy hq0 hy
                    by_cases heq : R.getD y 0 = mk.getD i 0
                    · have HSu2 := Lib.hid (show cntR R (mk.getD i 0) (y + 1) = cntR R (mk.getD i 0) y + 1 by rw [HSuc.out, if_pos heq])
                      have hEq := Lib.hid heq
                      rw [heq] at hc3
                      clear heq
                      generalize hcm : cntR R (mk.getD i 0) y = cc at *
                      have HCM := Lib.hid hcm
                      clear hcm
                      generalize mk.getD i 0 = mm at *
                      go_wp2_with fail
                      go_quiet (fail)
                      go_wp2_with fail
                      exact ⟨⟨y + 1, by omega, by go_num, by rw [HSu2.out], .inl trivial, HFy.out.drewN nq⟩, by simp [intOf]; omega⟩
                    · have HSu2 := Lib.hid (show cntR R (mk.getD i 0) (y + 1) = cntR R (mk.getD i 0) y by rw [HSuc.out, if_neg heq, Int.add_zero])
                      have hne : (R.getD y 0 == mk.getD i 0) = false := by simpa using heq
                      have HEq := Lib.hid heq
                      clear heq
                      generalize hcm : cntR R (mk.getD i 0) y = cc at *
                      have HCM := Lib.hid hcm
                      clear hcm
                      generalize mk.getD i 0 = mm at *
                      generalize R.getD y 0 = rr at *
                      go_wp2_with fail
                      go_quiet (fail)
                      go_wp2_with fail
                      exact ⟨⟨y + 1, by omega, by go_num, by rw [HSu2.out], .inl trivial, HFy.out.drewN nq⟩, by simp [intOf]; omega⟩
                  · have hyR' : ¬ (y : Int) < ((R.length : Nat) : Int) := by omega
                    obtain rfl : y = R.length := by omega
                    obtain ⟨hg, hbt⟩ := HGot.out i hin2
                    have hgot := hg rfl
                    have HCc := Lib.hid (HCt.out i (by rw [HLEN.out]; exact hin2) wr (HF6.out.trans HGy.out.fr))
                    obtain ⟨b4, f4, hA4, hb4, hc4⟩ := (HT2.out.keep (w' := wr) fun b hb => ((HF6.out.trans HGy.out.fr).block b hb (.inr (Nat.zero_le _)))).at_ hin2
                    have hb4 : b4 < wr.heap.size := Nat.lt_of_lt_of_le hb4 (HF6.out.trans HGy.out.fr).size
                    subst hA2
                    subst hA4
                    clear X hcr Fy hq0 hy hg
                    rw [hgot] at *
                    generalize mk.getD i 0 = mm at *
                    generalize htt : ts.getD i 0 = tt at *
                    obtain ⟨_, hb0, hb60⟩ := hbt
                    have HB60 := Lib.hid hb60
                    clear hgot htt
                    go_wp2_with fail
                    go_at_call 39
                    refine HCc.out.mono ?_
                    rintro e w8 ⟨cc, bb, hcc, rfl, hb8⟩
                    have HF8 := Lib.hid (HGy.out.below hb8)
                    have hcc' : ¬ cc < tt := by have := HB60.out; omega
                    have hc48 : w8.cell? ⟨b4, f4 + i, none⟩ = some (.int .i64 tt) := (World.cell?_of_block (a := ⟨b4, f4 + i, none⟩) (hb8.block b4 hb4)).trans hc4
                    have hb48 : b4 < w8.heap.size := Nat.lt_of_lt_of_le hb4 hb8.size
                    clear hb8 hcc hc4
                    go_wp2_with fail
                    exact ⟨⟨i + 1, by omega, by go_num, HF8.out⟩, by simp [intOf]; omega⟩
                · have hq3' : (q == 3) = false := by simpa using hq3
                  have hy0 : y = 0 := hq0.resolve_left hq3
                  subst hy0
                  obtain ⟨_, hg, hbt⟩ := HGot.out i hin2
                  have hts0 := hg hq3
                  have HCc := Lib.hid (HCt.out i (by rw [HLEN.out]; exact hin2) wr (HF6.out.trans HGy.out.fr))
                  obtain ⟨b4, f4, hA4, hb4, hc4⟩ := (HT2.out.keep (w' := wr) fun b hb => ((HF6.out.trans HGy.out.fr).block b hb (.inr (Nat.zero_le _)))).at_ hin2
                  have hb4 : b4 < wr.heap.size := Nat.lt_of_lt_of_le hb4 (HF6.out.trans HGy.out.fr).size
                  rw [hts0] at hc4 HCc
                  have hcr0 : cntR R (mk.getD i 0) 0 = 0 := rfl
                  rw [hcr0]
                  subst hA2
                  subst hA4
                  have hq3c := hq3
                  clear X hcr Fy hq0 hy hg hbt hts0 hcr0 hq3
                  have HQ3 := Lib.hid hq3c
                  clear hq3c
                  generalize mk.getD i 0 = mm at *
                  by_cases hR0 : (0 : Int) < ((R.length : Nat) : Int)
                  · go_wp2_with fail
                    go_at_call 39
                    refine HCc.out.mono ?_
                    rintro e w8 ⟨cc, bb, hcc, rfl, hb8⟩
                    have HF8 := Lib.hid (HGy.out.below hb8)
                    have hcc' : ¬ cc < 0 := by omega
                    have hc48 : w8.cell? ⟨b4, f4 + i, none⟩ = some (.int .i64 0) := (World.cell?_of_block (a := ⟨b4, f4 + i, none⟩) (hb8.block b4 hb4)).trans hc4
                    have hb48 : b4 < w8.heap.size := Nat.lt_of_lt_of_le hb4 hb8.size
                    clear hb8 hcc hc4
                    go_wp2_with fail
                    exact ⟨⟨i + 1, by omega, by go_num, HF8.out⟩, by simp [intOf]; omega⟩
                  · go_wp2_with fail
                    go_at_call 39
                    refine HCc.out.mono ?_
                    rintro e w8 ⟨cc, bb, hcc, rfl, hb8⟩
                    have HF8 := Lib.hid (HGy.out.below hb8)
                    have hcc' : ¬ cc < 0 := by omega
                    have hc48 : w8.cell? ⟨b4, f4 + i, none⟩ = some (.int .i64 0) := (World.cell?_of_block (a := ⟨b4, f4 + i, none⟩) (hb8.block b4 hb4)).trans hc4
                    have hb48 : b4 < w8.heap.size := Nat.lt_of_lt_of_le hb4 hb8.size
                    clear hb8 hcc hc4
                    go_wp2_with fail
                    exact ⟨⟨i + 1, by omega, by go_num, HF8.out⟩, by simp [intOf]; omega⟩
            · have hin2' : ¬ (i : Int) < (n : Int) := by omega
              have HFE := Lib.hid (HFj.out.fr (HF6.out.trans Gw.fr) (by omega))
              clear Gw
              go_wp2_with fail
              go_ret
              exact ⟨rfl, HFE.out.tob⟩
theorem holds_walk (n : Int) (a1 : Option Addr) (m c1 : Nat) (z1 : List Int) (w : World) (w0 : (Lit.int .i64 n).wf = true) (w1 : InSl .i64 w a1 m c1 z1) :
    Calls Tryz.prog 6 #[.int .i64 n, .slice a1 m c1] w fun e w' => e = .returned (.bool true) ∧ Below w.heap.size w w' := by
  by_cases h : 1 ≤ n ∧ n ≤ 6 ∧ m ≤ 60
  · obtain ⟨k, rfl⟩ := Int.eq_ofNat_of_zero_le (show 0 ≤ n by omega)
    exact holds_in k a1 m c1 _ w (by omega) (by omega) h.2.2 w1.rd.1
  · exact holds_out n a1 m c1 w h w1.len_le
end Go.Proofs.YtlpklloagaccoaaGreat
