/- Objects in an arena: what lies where of them, in plain words. No condition. -/
import Derived.Test.YtlpklloagaccoaaSpec
import Derived.Test.YtlpklloagaccoaaRead
namespace Go.Proofs.Ytlpklloagaccoaa
open Go.RowKit
set_option linter.unusedVariables false

def in64 (n : Int) : Prop := -9223372036854775808 ≤ n ∧ n < 9223372036854775808
/-- A number as a word. -/
def wd64 (n : Int) : Nat := (n % 18446744073709551616).toNat
theorem wd64_lt (n : Int) : wd64 n < 2 ^ 64 := by unfold wd64; omega
theorem wd64_back {n : Int} (h : in64 n) : IntKind.i64.wrap ((wd64 n : Nat) : Int) = n := by
  unfold in64 at h; unfold wd64; rw [IntKind.wrap_i64]; omega
theorem wd64_wrap (n : Int) : IntKind.u64.wrap n = ((wd64 n : Nat) : Int) := by
  unfold wd64; rw [IntKind.wrap_u64]; omega
theorem getv_hdW {k c r n col : Nat} {z d : Bool} (hk : k ≤ 8) (hc : c ≤ 4000) (hr : r ≤ 4000) (hn : n ≤ 255) (hcol : col ≤ 3) :
    getv (hdW k c r n col z d) 0 4 = k ∧ getv (hdW k c r n col z d) 4 16 = c ∧ getv (hdW k c r n col z d) 20 16 = r ∧ getv (hdW k c r n col z d) 36 8 = n ∧ getv (hdW k c r n col z d) 44 2 = col ∧ (getv (hdW k c r n col z d) 46 1 == 1) = z ∧ (getv (hdW k c r n col z d) 47 1 == 1) = d := by
  have hz : z.toNat < 2 := by cases z <;> decide
  have hd : d.toNat < 2 := by cases d <;> decide
  have h6 : getv (hdW k c r n col z d) 46 1 = z.toNat := by unfold getv hdW; simp only [Nat.reducePow]; omega
  have h7 : getv (hdW k c r n col z d) 47 1 = d.toNat := by unfold getv hdW; simp only [Nat.reducePow]; omega
  refine ⟨?_, ?_, ?_, ?_, ?_, by rw [h6]; cases z <;> rfl, by rw [h7]; cases d <;> rfl⟩
  all_goals
    unfold getv hdW; simp only [Nat.reducePow]; omega
theorem hdW_lt {k c r n col : Nat} {z d : Bool} (hk : k ≤ 8) (hc : c ≤ 4000) (hr : r ≤ 4000) (hn : n ≤ 255) (hcol : col ≤ 3) : hdW k c r n col z d < 2 ^ 64 := by
  have hz : z.toNat < 2 := by cases z <;> decide
  have hd : d.toNat < 2 := by cases d <;> decide
  unfold hdW; omega
theorem hdW_pos {k c r n col : Nat} {z d : Bool} (hk : 1 ≤ k) : 0 < hdW k c r n col z d := by unfold hdW; omega
theorem rdV_hdW {k c r n col : Nat} {z d : Bool} (hk : k ≤ 8) (hc : c ≤ 4000) (hr : r ≤ 4000) (hn : n ≤ 255) (hcol : col ≤ 3) : rdV (hdW k c r n col z d) = hdV k c r n col z d := by
  obtain ⟨h1, h2, h3, h4, h5, h6, h7⟩ := getv_hdW (z := z) (d := d) hk hc hr hn hcol
  unfold rdV
  rw [h1, h2, h3, h4, h5, h6, h7]

/-- An object: its header's kind, cells, raw bytes, count; what stands in its cells, and its bytes. -/
structure Ob where
  kind : Nat
  cells : Nat
  raw : Nat
  cnt : Nat
  val : Nat → Nat × Int
  byte : Nat → Nat
def wordsN (c r : Nat) : Nat := 1 + 2 * c + (r + 7) / 8
structure ObAt (m : Nat → Nat) (a : Nat) (x : Ob) : Prop where
  hd : ∃ col z, col ≤ 3 ∧ m a = hdW x.kind x.cells x.raw x.cnt col z false
  vals : ∀ i, i < x.cells → m (a + 1 + 2 * i) = (x.val i).1 ∧ m (a + 1 + 2 * i + 1) = wd64 (x.val i).2
  vok : ∀ i, i < x.cells → (x.val i).1 ≤ 3 ∧ in64 (x.val i).2
  bytes : ∀ i, i < x.raw → getv (m (a + 1 + 2 * x.cells + i / 8)) (i % 8 * 8) 8 = x.byte i
  bok : ∀ i, i < x.raw → x.byte i < 256
  k1 : 1 ≤ x.kind ∧ x.kind ≤ 8
  c1 : x.cells ≤ 4000
  r1 : x.raw ≤ 4000
  n1 : x.cnt ≤ 255
structure SpS where
  ar : ArS
  ob : Int → Option Ob
structure SpOk (S : SpS) : Prop where
  ok : ArOk S.ar
  loc : ∀ h x, S.ob h = some x → ∃ (a : Nat) (sz : Nat), h = (a : Int) ∧ S.ar.bl h = some ⟨sz, wordsN x.cells x.raw, 1⟩ ∧ ObAt S.ar.m a x
  all : ∀ h y, S.ar.bl h = some y → y.state = 1 → ∃ x, S.ob h = some x
theorem ObAt.congr {m m' : Nat → Nat} {a : Nat} {x : Ob} (h : ObAt m a x) (e : ∀ i, a ≤ i → i < a + wordsN x.cells x.raw → m' i = m i) : ObAt m' a x := by
  have hw : wordsN x.cells x.raw = 1 + 2 * x.cells + (x.raw + 7) / 8 := rfl
  refine ⟨?_, fun i hi => ?_, h.vok, fun i hi => ?_, h.bok, h.k1, h.c1, h.r1, h.n1⟩
  · rw [e a (by omega) (by omega)]; exact h.hd
  · rw [e _ (by omega) (by omega), e _ (by omega) (by omega)]; exact h.vals i hi
  · rw [e _ (by omega) (by omega)]; exact h.bytes i hi
/-- The words of an object lie in the arena. -/
theorem SpOk.range {S : SpS} (h : SpOk S) {k : Int} {x : Ob} (hx : S.ob k = some x) : ∃ a : Nat, k = (a : Int) ∧ 64 ≤ a ∧ a + wordsN x.cells x.raw ≤ S.ar.n * 64 ∧ ObAt S.ar.m a x := by
  obtain ⟨a, sz, h1, h2, h3⟩ := h.loc k x hx
  obtain ⟨b, e1, e2, e3, e4, e5⟩ := h.ok.nat _ _ h2
  have := h.ok.tn
  have : a = b := by omega
  subst this
  simp only at e3 e4
  exact ⟨a, h1, e2, by omega, h3⟩
/-- What stands elsewhere stays. -/
theorem SpOk.apart {S : SpS} (h : SpOk S) {k k' : Int} {x x' : Ob} (hx : S.ob k = some x) (hx' : S.ob k' = some x') (hne : k ≠ k') {a a' : Nat} (ha : k = a) (ha' : k' = a') {i : Nat} (h1 : a ≤ i) (h2 : i < a + wordsN x.cells x.raw) : ¬ (a' ≤ i ∧ i < a' + wordsN x'.cells x'.raw) := by
  obtain ⟨a1, sz, e1, e2, e3⟩ := h.loc k x hx
  obtain ⟨a2, sz', f1, f2, f3⟩ := h.loc k' x' hx'
  obtain ⟨_, _, _, _, e4, _⟩ := h.ok.nat _ _ e2
  obtain ⟨_, _, _, _, f4, _⟩ := h.ok.nat _ _ f2
  simp only at e4 f4
  rcases Int.lt_or_gt_of_ne hne with hlt | hlt
  · have := h.ok.disj _ _ _ _ e2 f2 hlt; simp only at this; omega
  · have := h.ok.disj _ _ _ _ f2 e2 hlt; simp only at this; omega
/-- An object turns: its words, and what it is. -/
def putOb (S : SpS) (k : Int) (x : Ob) (m : Nat → Nat) : SpS := { ar := { S.ar with m := m }, ob := updI S.ob k (some x) }
theorem SpOk.put {S : SpS} (h : SpOk S) {k : Int} {x y : Ob} (hx : S.ob k = some x) (hc : y.cells = x.cells) (hr : y.raw = x.raw) {a : Nat} (ha : k = a) {m : Nat → Nat} (hm : ∀ i, ¬ (a ≤ i ∧ i < a + wordsN x.cells x.raw) → m i = S.ar.m i) (hy : ObAt m a y) : SpOk (putOb S k y m) := by
  refine ⟨⟨h.ok.tn, h.ok.nat, h.ok.disj⟩, fun k' x' hk' => ?_, fun k' z hz hs => ?_⟩
  · revert hk'
    show updI S.ob k (some y) k' = some x' → _
    unfold updI
    split
    · rename_i e; subst e
      intro e; cases e
      obtain ⟨a1, sz, e1, e2, e3⟩ := h.loc _ _ hx
      refine ⟨a1, sz, e1, by rw [hc, hr]; exact e2, ?_⟩
      have : a1 = a := by omega
      rw [this]; exact hy
    · rename_i hne
      intro e
      obtain ⟨a1, sz, e1, e2, e3⟩ := h.loc _ _ e
      exact ⟨a1, sz, e1, e2, e3.congr fun i h1 h2 => hm i fun h3 => h.apart e hx hne e1 ha h1 h2 h3⟩
  · show ∃ x', updI S.ob k (some y) k' = some x'
    unfold updI
    split
    · exact ⟨_, rfl⟩
    · exact h.all k' z hz hs
/-- A new object. -/
def newOb (kind cells raw : Nat) : Ob := ⟨kind, cells, raw, 0, fun _ => (0, 0), fun _ => 0⟩
/-- The making of an object: the space behind it, and where it is. -/
def makeS (S : SpS) (kind cells raw : Nat) : Option (SpS × Nat) :=
  (allocS S.ar (wordsN cells raw)).map fun x => (⟨{ x.1 with m := updN x.1.m x.2 (hdW kind cells raw 0 0 false false) }, updI S.ob (x.2 : Int) (some (newOb kind cells raw))⟩, x.2)
end Go.Proofs.Ytlpklloagaccoaa
