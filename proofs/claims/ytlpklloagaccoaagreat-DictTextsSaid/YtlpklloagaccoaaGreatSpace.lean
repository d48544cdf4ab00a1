/- Objects in an arena: what lies where of them, in plain words. No condition. Blocks that are given out, in plain words: they are new, and what is in use stays. Condition: nothing was freed. A space of objects: what lies where of it, in plain words; what may be given out. No condition. -/
import Derived.Test.YtlpklloagaccoaaGreatSpec
import Derived.Test.YtlpklloagaccoaaGreatRead
namespace Go.Proofs.YtlpklloagaccoaaGreat
open Go.RowKit
set_option linter.unusedVariables false

def in64 (n : Int) : Prop := -9223372036854775808 ≤ n ∧ n < 9223372036854775808
/-- A number as a word. -/
def wd64 (n : Int) : Nat := (n % 18446744073709551616).toNat
theorem wd64_lt (n : Int) : wd64 n < 2 ^ 64 := by unfold wd64; omega
theorem wd64_back {n : Int} (h : in64 n) : IntKind.i64.wrap ((wd64 n : Nat) : Int) = n := by
  unfold in64 at h; unfold wd64; rw [IntKind.wrap_i64]; omega
theorem wd64_wrap (n : Int) : IntKind.u64.wrap n = ((wd64 n : Nat) : Int) := by
  unfold wd64; rw [IntKind.wrap_u64]; omega
theorem getv_hdW {k c r n col : Nat} {z d : Bool} (hk : k ≤ 8) (hc : c ≤ 4000) (hr : r ≤ 4000) (hn : n ≤ 255) (hcol : col ≤ 3) :
    getv (hdW k c r n col z d) 0 4 = k ∧ getv (hdW k c r n col z d) 4 16 = c ∧ getv (hdW k c r n col z d) 20 16 = r ∧ getv (hdW k c r n col z d) 36 8 = n ∧ getv (hdW k c r n col z d) 44 2 = col ∧ (getv (hdW k c r n col z d) 46 1 == 1) = z ∧ (getv (hdW k c r n col z d) 47 1 == 1) = d := by
  have hz : z.toNat < 2 := by cases z <;> decide
  have hd : d.toNat < 2 := by cases d <;> decide
  have h6 : getv (hdW k c r n col z d) 46 1 = z.toNat := by unfold getv hdW; simp only [Nat.reducePow]; omega
  have h7 : getv (hdW k c r n col z d) 47 1 = d.toNat := by unfold getv hdW; simp only [Nat.reducePow]; omega
  refine ⟨?_, ?_, ?_, ?_, ?_, by rw [h6]; cases z <;> rfl, by rw [h7]; cases d <;> rfl⟩
  all_goals
    unfold getv hdW; simp only [Nat.reducePow]; omega
theorem hdW_lt {k c r n col : Nat} {z d : Bool} (hk : k ≤ 8) (hc : c ≤ 4000) (hr : r ≤ 4000) (hn : n ≤ 255) (hcol : col ≤ 3) : hdW k c r n col z d < 2 ^ 64 := by
  have hz : z.toNat < 2 := by cases z <;> decide
  have hd : d.toNat < 2 := by cases d <;> decide
  unfold hdW; omega
theorem hdW_pos {k c r n col : Nat} {z d : Bool} (hk : 1 ≤ k) : 0 < hdW k c r n col z d := by unfold hdW; omega
theorem rdV_hdW {k c r n col : Nat} {z d : Bool} (hk : k ≤ 8) (hc : c ≤ 4000) (hr : r ≤ 4000) (hn : n ≤ 255) (hcol : col ≤ 3) : rdV (hdW k c r n col z d) = hdV k c r n col z d := by
  obtain ⟨h1, h2, h3, h4, h5, h6, h7⟩ := getv_hdW (z := z) (d := d) hk hc hr hn hcol
  unfold rdV
  rw [h1, h2, h3, h4, h5, h6, h7]

/-- An object: its header's kind, cells, raw bytes, count; what stands in its cells, and its bytes. -/
structure Ob where
  kind : Nat
  cells : Nat
  raw : Nat
  cnt : Nat
  val : Nat → Nat × Int
  byte : Nat → Nat
def wordsN (c r : Nat) : Nat := 1 + 2 * c + (r + 7) / 8
structure ObAt (m : Nat → Nat) (a : Nat) (x : Ob) : Prop where
  hd : ∃ col z, col ≤ 3 ∧ m a = hdW x.kind x.cells x.raw x.cnt col z false
  vals : ∀ i, i < x.cells → m (a + 1 + 2 * i) = (x.val i).1 ∧ m (a + 1 + 2 * i + 1) = wd64 (x.val i).2
  vok : ∀ i, i < x.cells → (x.val i).1 ≤ 3 ∧ in64 (x.val i).2
  bytes : ∀ i, i < x.raw → getv (m (a + 1 + 2 * x.cells + i / 8)) (i % 8 * 8) 8 = x.byte i
  bok : ∀ i, i < x.raw → x.byte i < 256
  k1 : 1 ≤ x.kind ∧ x.kind ≤ 8
  c1 : x.cells ≤ 4000
  r1 : x.raw ≤ 4000
  n1 : x.cnt ≤ 255
structure SpS where
  ar : ArS
  ob : Int → Option Ob
structure SpOk (S : SpS) : Prop where
  ok : ArOk S.ar
  loc : ∀ h x, S.ob h = some x → ∃ (a : Nat) (sz : Nat), h = (a : Int) ∧ S.ar.bl h = some ⟨sz, wordsN x.cells x.raw, 1⟩ ∧ ObAt S.ar.m a x
  all : ∀ h y, S.ar.bl h = some y → y.state = 1 → ∃ x, S.ob h = some x
  can : ∀ h y, S.ar.bl h = some y → y.state = 1 → ∀ i : Nat, h + (y.asked : Int) ≤ (i : Int) → (i : Int) < h + (y.size : Int) → S.ar.m i = canW (i : Int)
theorem ObAt.congr {m m' : Nat → Nat} {a : Nat} {x : Ob} (h : ObAt m a x) (e : ∀ i, a ≤ i → i < a + wordsN x.cells x.raw → m' i = m i) : ObAt m' a x := by
  have hw : wordsN x.cells x.raw = 1 + 2 * x.cells + (x.raw + 7) / 8 := rfl
  refine ⟨?_, fun i hi => ?_, h.vok, fun i hi => ?_, h.bok, h.k1, h.c1, h.r1, h.n1⟩
  · rw [e a (by omega) (by omega)]; exact h.hd
  · rw [e _ (by omega) (by omega), e _ (by omega) (by omega)]; exact h.vals i hi
  · rw [e _ (by omega) (by omega)]; exact h.bytes i hi
/-- The words of an object lie in the arena. -/
theorem SpOk.range {S : SpS} (h : SpOk S) {k : Int} {x : Ob} (hx : S.ob k = some x) : ∃ a : Nat, k = (a : Int) ∧ 64 ≤ a ∧ a + wordsN x.cells x.raw ≤ S.ar.n * 64 ∧ ObAt S.ar.m a x := by
  obtain ⟨a, sz, h1, h2, h3⟩ := h.loc k x hx
  obtain ⟨b, e1, e2, e3, e4, e5⟩ := h.ok.nat _ _ h2
  have := h.ok.tn
  have : a = b := by omega
  subst this
  simp only at e3 e4
  exact ⟨a, h1, e2, by omega, h3⟩
/-- What stands elsewhere stays. -/
theorem SpOk.apart {S : SpS} (h : SpOk S) {k k' : Int} {x x' : Ob} (hx : S.ob k = some x) (hx' : S.ob k' = some x') (hne : k ≠ k') {a a' : Nat} (ha : k = a) (ha' : k' = a') {i : Nat} (h1 : a ≤ i) (h2 : i < a + wordsN x.cells x.raw) : ¬ (a' ≤ i ∧ i < a' + wordsN x'.cells x'.raw) := by
  obtain ⟨a1, sz, e1, e2, e3⟩ := h.loc k x hx
  obtain ⟨a2, sz', f1, f2, f3⟩ := h.loc k' x' hx'
  obtain ⟨_, _, _, _, e4, _⟩ := h.ok.nat _ _ e2
  obtain ⟨_, _, _, _, f4, _⟩ := h.ok.nat _ _ f2
  simp only at e4 f4
  rcases Int.lt_or_gt_of_ne hne with hlt | hlt
  · have := h.ok.disj _ _ _ _ e2 f2 hlt; simp only at this; omega
  · have := h.ok.disj _ _ _ _ f2 e2 hlt; simp only at this; omega
/-- An object turns: its words, and what it is. -/
def putOb (S : SpS) (k : Int) (x : Ob) (m : Nat → Nat) : SpS := { ar := { S.ar with m := m }, ob := updI S.ob k (some x) }
theorem SpOk.put {S : SpS} (h : SpOk S) {k : Int} {x y : Ob} (hx : S.ob k = some x) (hc : y.cells = x.cells) (hr : y.raw = x.raw) {a : Nat} (ha : k = a) {m : Nat → Nat} (hm : ∀ i, ¬ (a ≤ i ∧ i < a + wordsN x.cells x.raw) → m i = S.ar.m i) (hy : ObAt m a y) : SpOk (putOb S k y m) := by
  refine ⟨⟨h.ok.tn, h.ok.nat, h.ok.disj⟩, fun k' x' hk' => ?_, fun k' z hz hs => ?_, fun k' z hz hs i h1 h2 => ?_⟩
  · revert hk'
    show updI S.ob k (some y) k' = some x' → _
    unfold updI
    split
    · rename_i e; subst e
      intro e; cases e
      obtain ⟨a1, sz, e1, e2, e3⟩ := h.loc _ _ hx
      refine ⟨a1, sz, e1, by rw [hc, hr]; exact e2, ?_⟩
      have : a1 = a := by omega
      rw [this]; exact hy
    · rename_i hne
      intro e
      obtain ⟨a1, sz, e1, e2, e3⟩ := h.loc _ _ e
      exact ⟨a1, sz, e1, e2, e3.congr fun i h1 h2 => hm i fun h3 => h.apart e hx hne e1 ha h1 h2 h3⟩
  · show ∃ x', updI S.ob k (some y) k' = some x'
    unfold updI
    split
    · exact ⟨_, rfl⟩
    · exact h.all k' z hz hs
  · have hz' : S.ar.bl k' = some z := hz
    obtain ⟨a1, sz, e1, e2, e3⟩ := h.loc _ _ hx
    have hgo : ¬ (a ≤ i ∧ i < a + wordsN x.cells x.raw) := by
      rintro ⟨g1, g2⟩
      obtain ⟨_, _, _, _, f4, _⟩ := h.ok.nat _ _ e2
      simp only at f4
      by_cases e : k' = k
      · subst e
        rw [e2] at hz'
        cases hz'
        simp only at h1
        omega
      · rcases Int.lt_or_gt_of_ne e with hlt | hlt
        · have := h.ok.disj _ _ _ _ hz' e2 hlt; omega
        · have := h.ok.disj _ _ _ _ e2 hz' hlt; simp only at this; omega
    show m i = _
    rw [hm i hgo]
    exact h.can k' z hz' hs i h1 h2
/-- A new object. -/
def newOb (kind cells raw : Nat) : Ob := ⟨kind, cells, raw, 0, fun _ => (0, 0), fun _ => 0⟩
/-- The making of an object: the space behind it, and where it is. -/
def makeS (S : SpS) (kind cells raw : Nat) : Option (SpS × Nat) :=
  (allocS S.ar (wordsN cells raw)).map fun x => (⟨{ x.1 with m := updN x.1.m x.2 (hdW kind cells raw 0 0 false false) }, updI S.ob (x.2 : Int) (some (newOb kind cells raw))⟩, x.2)
end Go.Proofs.YtlpklloagaccoaaGreat
namespace Go.Proofs.YtlpklloagaccoaaGreat
open Go.RowKit
set_option linter.unusedVariables false

/-- Behind the taking. -/
structure Took (S T : ArS) (a n : Nat) : Prop where
  fresh : Fresh T
  n_ : T.n = S.n
  m : T.m = S.m
  t0 : S.t ≤ T.t
  t1 : T.t ≤ S.t + (n / 64 + 1)
  bl : T.bl (a : Int) = some ⟨sizeN n, 0, 0⟩
  gone : Gone T a
  keep : ∀ k y, y.state = 1 → (T.bl k = some y ↔ S.bl k = some y)
theorem Fresh.none {S : ArS} (h : Fresh S) {c : Nat} (hc : c < 5) {k : Int} {y : Bl} (hy : S.bl k = some y) : k ∉ seqL (S.t * 64) (lenN c) (perN c) := by
  intro hm
  obtain ⟨j, hj, e⟩ := mem_seqL.1 hm
  obtain ⟨a, e1, e2, e3, e4, e5⟩ := h.ok.nat _ _ hy
  omega
theorem tookS_spec {S : ArS} (h : Fresh S) {n : Nat} {T : ArS} {a : Nat} (e : tookS S n = some (T, a)) : Took S T a n := by
  unfold tookS at e
  have hcl := class_le n
  by_cases h5 : classN n = 5
  · obtain ⟨hs, h32⟩ := size_large h5
    rw [if_pos h5] at e
    by_cases hf : S.t + (n / 64 + 1) ≤ S.n
    · rw [if_pos hf] at e
      cases e
      refine ⟨h.great (by omega) hf, rfl, rfl, by show S.t ≤ S.t + _; omega, by show S.t + _ ≤ _; omega, ?_, h.gone_great _, fun k y hy => ?_⟩
      · show updI S.bl _ _ _ = _
        unfold updI
        rw [if_pos rfl, hs]
      · show updI S.bl _ _ k = some y ↔ _
        unfold updI
        split
        · rename_i e; subst e
          constructor
          · intro e; cases e; cases hy
          · intro e
            obtain ⟨a, e1, e2, e3, e4, e5⟩ := h.ok.nat _ _ e
            omega
        · exact Iff.rfl
    · rw [if_neg hf] at e; cases e
  · rw [if_neg h5] at e
    have hc : classN n < 5 := by omega
    obtain ⟨hs, hn⟩ := size_small hc
    by_cases hj : (S.cur (classN n)).2 < perN (classN n)
    · rw [if_pos hj] at e
      cases e
      exact ⟨h.first hc hj, rfl, rfl, Nat.le_refl _, by show S.t ≤ _; omega, by
        rw [hs]; exact h.free _ hc _ (Nat.le_refl _) hj, h.gone_first hc hj, fun k y hy => Iff.rfl⟩
    · rw [if_neg hj] at e
      by_cases hf : S.t + 1 ≤ S.n
      · rw [if_pos hf] at e
        cases e
        have hP := h.page hc hf
        have hcu : (pageS S (classN n)).cur (classN n) = (S.t, 0) := by show updF S.cur _ _ _ = _; unfold updF; rw [if_pos rfl]
        have hj2 : ((pageS S (classN n)).cur (classN n)).2 < perN (classN n) := by rw [hcu]; have := (per_len hc).2.1; show 0 < _; omega
        have hg := hP.gone_first hc hj2
        have hb := hP.free _ hc _ (Nat.le_refl _) hj2
        rw [hcu] at hg hb
        simp only [Nat.zero_mul, Nat.add_zero] at hg hb
        refine ⟨hP.first hc hj2, rfl, rfl, by show S.t ≤ S.t + 1; omega, by show S.t + 1 ≤ _; omega, by rw [hs]; exact hb, hg, fun k y hy => ?_⟩
        show pageBl S.bl _ _ _ k = some y ↔ _
        unfold pageBl
        split
        · rename_i hm
          constructor
          · intro e; cases e; cases hy
          · intro e; exact absurd hm (h.none hc e)
        · exact Iff.rfl
      · rw [if_neg hf] at e; cases e
/-- Behind the giving out. -/
structure Given_ (S T : ArS) (a n : Nat) : Prop where
  fresh : Fresh T
  n_ : T.n = S.n
  m : T.m = finM S.m a n (sizeN n)
  t0 : S.t ≤ T.t
  t1 : T.t ≤ S.t + (n / 64 + 1)
  bl : T.bl (a : Int) = some ⟨sizeN n, n, 1⟩
  keep : ∀ k y, k ≠ (a : Int) → y.state = 1 → (T.bl k = some y ↔ S.bl k = some y)
  new : ∀ y, y.state = 1 → S.bl (a : Int) ≠ some y
theorem size_ge (n : Nat) : n ≤ sizeN n := by
  have := class_le n
  by_cases h : classN n = 5
  · have := size_large h; omega
  · have := size_small (n := n) (by omega); omega
theorem allocS_spec {S : ArS} (h : Fresh S) {n : Nat} {T : ArS} {a : Nat} (e : allocS S n = some (T, a)) : Given_ S T a n := by
  unfold allocS at e
  cases ht : tookS S n with
  | none => rw [ht] at e; cases e
  | some x =>
    obtain ⟨T0, a0⟩ := x
    rw [ht] at e
    simp only [Option.map_some, Option.some.injEq, Prod.mk.injEq] at e
    obtain ⟨rfl, rfl⟩ := e
    have K := tookS_spec h ht
    refine ⟨K.fresh.fin K.bl (size_ge n) K.gone, K.n_, by show finM T0.m _ _ _ = _; rw [K.m], K.t0, K.t1, ?_, fun k y hk hy => ?_, fun y hy he => ?_⟩
    · show updI T0.bl _ _ _ = _
      unfold updI
      rw [if_pos rfl]
    · show updI T0.bl _ _ k = some y ↔ _
      unfold updI
      rw [if_neg hk]
      exact K.keep k y hy
    · have := (K.keep _ y hy).2 he
      rw [K.bl] at this
      cases this
      cases hy
/-- There is room while pages are left. -/
theorem allocS_room {S : ArS} (n : Nat) (h : S.t + (n / 64 + 1) ≤ S.n) : ∃ T a, allocS S n = some (T, a) := by
  unfold allocS tookS
  by_cases h5 : classN n = 5
  · rw [if_pos h5, if_pos h]; exact ⟨_, _, rfl⟩
  · rw [if_neg h5]
    by_cases hj : (S.cur (classN n)).2 < perN (classN n)
    · rw [if_pos hj]; exact ⟨_, _, rfl⟩
    · rw [if_neg hj, if_pos (by omega)]; exact ⟨_, _, rfl⟩
theorem wordsN_pos (c r : Nat) : 1 ≤ wordsN c r := by unfold wordsN; omega
theorem getv_zero (a n : Nat) : getv 0 a n = 0 := by unfold getv; simp
/-- Behind the making of an object. -/
structure MadeOb (S T : SpS) (a kind cells raw : Nat) : Prop where
  ok : SpOk T
  fresh : Fresh T.ar
  n_ : T.ar.n = S.ar.n
  t0 : S.ar.t ≤ T.ar.t
  t1 : T.ar.t ≤ S.ar.t + (wordsN cells raw / 64 + 1)
  ob : T.ob = updI S.ob (a : Int) (some (newOb kind cells raw))
  new : S.ob (a : Int) = none
  lo : 64 ≤ a
  hi : a + wordsN cells raw ≤ S.ar.n * 64
theorem makeS_spec {S : SpS} (h : SpOk S) (hf : Fresh S.ar) {kind cells raw : Nat} (hk : 1 ≤ kind ∧ kind ≤ 8) (hc : cells ≤ 4000) (hr : raw ≤ 4000) {T : SpS} {a : Nat} (e : makeS S kind cells raw = some (T, a)) : MadeOb S T a kind cells raw := by
  unfold makeS at e
  cases ht : allocS S.ar (wordsN cells raw) with
  | none => rw [ht] at e; cases e
  | some x =>
    obtain ⟨T0, a0⟩ := x
    rw [ht] at e
    simp only [Option.map_some, Option.some.injEq, Prod.mk.injEq] at e
    obtain ⟨rfl, rfl⟩ := e
    have G := allocS_spec hf ht
    have hnew : S.ob (a0 : Int) = none := by
      cases hx : S.ob (a0 : Int) with
      | none => rfl
      | some x =>
        obtain ⟨a1, sz, e1, e2, e3⟩ := h.loc _ _ hx
        exact absurd e2 (G.new _ rfl)
    obtain ⟨b, e1, e2, e3, e4, e5⟩ := G.fresh.ok.nat _ _ G.bl
    simp only at e3 e4 e5
    have hb : a0 = b := by omega
    subst hb
    have htn := G.fresh.ok.tn
    have hn := G.n_
    have hw : wordsN cells raw = 1 + 2 * cells + (raw + 7) / 8 := rfl
    have hM : ∀ i, a0 ≤ i → i < a0 + wordsN cells raw → updN T0.m a0 (hdW kind cells raw 0 0 false false) i = if i = a0 then hdW kind cells raw 0 0 false false else 0 := fun i h1 h2 => by
      unfold updN
      split
      · rfl
      · rw [G.m]; unfold finM; rw [if_pos ⟨h1, h2⟩]
    refine ⟨⟨⟨G.fresh.ok.tn, G.fresh.ok.nat, G.fresh.ok.disj⟩, fun k x hk' => ?_, fun k y hy hs => ?_, fun k y hy hs i h1 h2 => ?_⟩, ⟨⟨G.fresh.ok.tn, G.fresh.ok.nat, G.fresh.ok.disj⟩, G.fresh.pg, G.fresh.t1, G.fresh.cj, G.fresh.rows, G.fresh.free⟩, G.n_, G.t0, G.t1, rfl, hnew, e2, by omega⟩
    · revert hk'
      show updI S.ob _ _ k = some x → _
      unfold updI
      split
      · rename_i e; subst e
        intro e; cases e
        refine ⟨a0, sizeN (wordsN cells raw), rfl, G.bl, ⟨0, false, by omega, ?_⟩, fun i hi => ?_, fun i hi => ⟨Nat.zero_le _, by unfold in64; show -9223372036854775808 ≤ (0 : Int) ∧ (0 : Int) < _; omega⟩, fun i hi => ?_, fun i hi => (by show 0 < 256; omega), hk, hc, hr, Nat.zero_le _⟩
        · exact (hM a0 (by omega) (by omega)).trans (if_pos rfl)
        · have hi' : i < cells := hi
          constructor
          · exact (hM (a0 + 1 + 2 * i) (by omega) (by omega)).trans (if_neg (by omega))
          · exact ((hM (a0 + 1 + 2 * i + 1) (by omega) (by omega)).trans (if_neg (by omega))).trans (show 0 = wd64 0 by decide)
        · have hi' : i < raw := hi
          have hcc : (newOb kind cells raw).cells = cells := rfl
          have h0 := (hM (a0 + 1 + 2 * cells + i / 8) (by omega) (by omega)).trans (if_neg (by omega))
          show getv (updN T0.m a0 _ (a0 + 1 + 2 * cells + i / 8)) _ 8 = 0
          rw [h0, getv_zero]
      · rename_i hne
        intro e
        obtain ⟨a1, sz, f1, f2, f3⟩ := h.loc _ _ e
        refine ⟨a1, sz, f1, (G.keep _ _ hne rfl).2 f2, f3.congr fun i h1 h2 => ?_⟩
        have hT := (G.keep _ _ hne rfl).2 f2
        obtain ⟨_, _, _, _, g4, _⟩ := G.fresh.ok.nat _ _ hT
        simp only at g4
        have hap : ¬ (a0 ≤ i ∧ i < a0 + sizeN (wordsN cells raw)) := by
          rcases Int.lt_or_gt_of_ne hne with hlt | hlt
          · have := G.fresh.ok.disj _ _ _ _ hT G.bl hlt; simp only at this; omega
          · have := G.fresh.ok.disj _ _ _ _ G.bl hT hlt; simp only at this; omega
        have hsz := size_ge (wordsN cells raw)
        show updN T0.m a0 _ i = _
        unfold updN
        rw [if_neg (by have := wordsN_pos cells raw; omega), G.m]
        unfold finM
        rw [if_neg (by omega), if_neg (by omega)]
    · show ∃ x, updI S.ob _ _ k = some x
      unfold updI
      split
      · exact ⟨_, rfl⟩
      · rename_i hne
        exact h.all k y ((G.keep k y hne hs).1 hy) hs
    · have hy' : T0.bl k = some y := hy
      have hsz := size_ge (wordsN cells raw)
      show updN T0.m a0 _ i = _
      by_cases hka : k = (a0 : Int)
      · subst hka
        rw [G.bl] at hy'
        cases hy'
        simp only at h1 h2
        unfold updN
        rw [if_neg (by omega), G.m]
        unfold finM
        rw [if_neg (by omega), if_pos (by omega)]
      · have hS := (G.keep k y hka hs).1 hy'
        have hap : ¬ (a0 ≤ i ∧ i < a0 + sizeN (wordsN cells raw)) := by
          obtain ⟨b, g1, _, _, _, _⟩ := G.fresh.ok.nat _ _ hy'
          rcases Int.lt_or_gt_of_ne hka with hlt | hlt
          · have := G.fresh.ok.disj _ _ _ _ hy' G.bl hlt; omega
          · have := G.fresh.ok.disj _ _ _ _ G.bl hy' hlt; simp only at this; omega
        unfold updN
        rw [if_neg (by omega), G.m]
        unfold finM
        rw [if_neg (by omega), if_neg (by omega)]
        exact h.can k y hS hs i h1 h2
end Go.Proofs.YtlpklloagaccoaaGreat
namespace Go.Proofs.YtlpklloagaccoaaGreat
open Go.RowKit
set_option linter.unusedVariables false

/-- What is left to give out: pages, a mark, the rows; whether nothing was freed. -/
structure Al where
  n : Nat
  t : Nat
  cur : Nat → Nat × Nat
  ok : Bool
/-- Nothing may be given out any more. -/
def shutL (L : Al) : Al := { L with ok := false }
def tookL (L : Al) (n : Nat) : Option (Al × Nat) :=
  if classN n = 5 then (if L.t + (n / 64 + 1) ≤ L.n then some ({ L with t := L.t + (n / 64 + 1) }, L.t * 64) else none)
  else if (L.cur (classN n)).2 < perN (classN n) then some ({ L with cur := updF L.cur (classN n) ((L.cur (classN n)).1, (L.cur (classN n)).2 + 1) }, (L.cur (classN n)).1 * 64 + (L.cur (classN n)).2 * lenN (classN n))
  else if L.t + 1 ≤ L.n then some ({ L with t := L.t + 1, cur := updF L.cur (classN n) (L.t, 1) }, L.t * 64) else none
structure AlOf (L : Al) (S : ArS) : Prop where
  n : S.n = L.n
  t : S.t = L.t
  cur : S.cur = L.cur
  ok : L.ok = true → Fresh S
  rows : L.ok = false → RowsOk S
theorem AlOf.rowsOk {L : Al} {S : ArS} (h : AlOf L S) : RowsOk S := by
  cases hk : L.ok with
  | true => exact (h.ok hk).rowsOk
  | false => exact h.rows hk
theorem AlOf.alloc {L : Al} {S : ArS} (h : AlOf L S) (hok : L.ok = true) (n : Nat) :
    (tookL L n = none ∧ allocS S n = none) ∨ ∃ L' T a, tookL L n = some (L', a) ∧ allocS S n = some (T, a) ∧ AlOf L' T ∧ L'.ok = true ∧ L'.n = L.n := by
  have hF := h.ok hok
  have K : ∀ T a, allocS S n = some (T, a) → Fresh T := fun T a e => (allocS_spec hF e).fresh
  revert K
  unfold allocS tookS tookL
  rw [← h.n, ← h.t, ← h.cur]
  by_cases h5 : classN n = 5
  · rw [if_pos h5, if_pos h5]
    by_cases hf : S.t + (n / 64 + 1) ≤ S.n
    · rw [if_pos hf, if_pos hf]
      intro K
      exact .inr ⟨_, _, _, rfl, rfl, ⟨rfl, rfl, rfl, fun _ => K _ _ rfl, fun e => absurd (show L.ok = false from e) (by rw [hok]; decide)⟩, hok, rfl⟩
    · rw [if_neg hf, if_neg hf]
      intro _; exact .inl ⟨rfl, rfl⟩
  · rw [if_neg h5, if_neg h5]
    by_cases hj : (S.cur (classN n)).2 < perN (classN n)
    · rw [if_pos hj, if_pos hj]
      intro K
      exact .inr ⟨_, _, _, rfl, rfl, ⟨rfl, rfl, rfl, fun _ => K _ _ rfl, fun e => absurd (show L.ok = false from e) (by rw [hok]; decide)⟩, hok, rfl⟩
    · rw [if_neg hj, if_neg hj]
      by_cases hf : S.t + 1 ≤ S.n
      · rw [if_pos hf, if_pos hf]
        intro K
        refine .inr ⟨_, _, _, rfl, rfl, ⟨rfl, rfl, ?_, fun _ => K _ _ rfl, fun e => absurd (show L.ok = false from e) (by rw [hok]; decide)⟩, hok, rfl⟩
        show updF (updF S.cur _ _) _ _ = updF S.cur _ _
        rw [updF_twice]
        congr 1
        show ((updF S.cur (classN n) (S.t, 0) (classN n)).1, (updF S.cur (classN n) (S.t, 0) (classN n)).2 + 1) = _
        unfold updF
        rw [if_pos rfl]
      · rw [if_neg hf, if_neg hf]
        intro _; exact .inl ⟨rfl, rfl⟩
structure Space (o : Own) (w : World) (r p : Nat) (L : Al) (ob : Int → Option Ob) (pa : Nat) (S : ArS) : Prop where
  blk : Blk o w r p (.cells #[.pointer (some ⟨pa, 0, none⟩)] 111 (0, 0))
  ar : ArenaRep o w (r + 1) pa S
  ok : SpOk ⟨S, ob⟩
  al : AlOf L S
def SpaceRep (o : Own) (w : World) (r p : Nat) (L : Al) (ob : Int → Option Ob) : Prop := ∃ pa S, Space o w r p L ob pa S
theorem Space.keep {lo hi : Nat} {o o' : Own} {w w' : World} {r p : Nat} {L : Al} {ob : Int → Option Ob} {pa : Nat} {S : ArS} (h : Space o w r p L ob pa S) (k : Fr lo hi o o' w w') (hr : r + 16 ≤ lo ∨ hi ≤ r) : Space o' w' r p L ob pa S :=
  ⟨h.blk.keep k (by omega), h.ar.keep k (by omega), h.ok, h.al⟩
theorem SpaceRep.keep {lo hi : Nat} {o o' : Own} {w w' : World} {r p : Nat} {L : Al} {ob : Int → Option Ob} (h : SpaceRep o w r p L ob) (k : Fr lo hi o o' w w') (hr : r + 16 ≤ lo ∨ hi ≤ r) : SpaceRep o' w' r p L ob :=
  let ⟨pa, S, s⟩ := h; ⟨pa, S, s.keep k hr⟩
theorem Space.c0 {o : Own} {w : World} {r p : Nat} {L : Al} {ob : Int → Option Ob} {pa : Nat} {S : ArS} (h : Space o w r p L ob pa S) : w.cell? ⟨p, 0, none⟩ = some (.pointer (some ⟨pa, 0, none⟩)) := h.blk.cell 0
end Go.Proofs.YtlpklloagaccoaaGreat
