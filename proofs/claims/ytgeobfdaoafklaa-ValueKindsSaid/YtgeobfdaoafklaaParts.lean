/- Contracts of the small functions (value.Same, value.Truth and the document's own, alive), what ValueKinds comes to, and a law for regions that draw their order while their calls only lay blocks. No condition. -/
import Derived.Test.YtgeobfdaoafklaaMath
import Derived.Lib.Hide
namespace Go.Proofs.Ytgeobfdaoafklaa
open Go.RowKit
theorem bcell3 {W w1 : World} (hb : Below W.heap.size W w1) : (∀ b o, b < W.heap.size → w1.cell? ⟨b, o, none⟩ = W.cell? ⟨b, o, none⟩) ∧ (∀ b o, b < W.heap.size → w1.frozen? ⟨b, o, none⟩ = W.frozen? ⟨b, o, none⟩) ∧ W.heap.size ≤ w1.heap.size :=
  ⟨fun b o h => hb.cell (p := ⟨b, o, none⟩) h, fun b o h => hb.frozen (p := ⟨b, o, none⟩) h, hb.size⟩
theorem bcell {W w1 : World} (hb : Below W.heap.size W w1) : (∀ b o, b < W.heap.size → w1.cell? ⟨b, o, none⟩ = W.cell? ⟨b, o, none⟩) ∧ (∀ b o, b < W.heap.size → w1.frozen? ⟨b, o, none⟩ = W.frozen? ⟨b, o, none⟩) :=
  ⟨fun b o h => hb.cell (p := ⟨b, o, none⟩) h, fun b o h => hb.frozen (p := ⟨b, o, none⟩) h⟩
theorem below_trans {w W c : World} (h : Below w.heap.size w W) (k : Below W.heap.size W c) : Below w.heap.size w c := h.trans (k.mono h.size)
theorem below_alloc {w W : World} (h : Below w.heap.size w W) (o : Obj) : Below w.heap.size w (W.alloc o) := h.alloc h.size o
def truthB (k n : Int) : Bool := if k = 0 then false else if k = 1 ∨ k = 2 then n != 0 else true
set_option maxHeartbeats 400000 in
theorem truth11 (k n : Int) (w : World) : Calls Try.prog 11 #[.agg #[.int .i64 k, .int .i64 n]] w fun e w' => e = .returned (.bool (truthB k n)) ∧ Below w.heap.size w w' := by
  unfold truthB
  by_cases h0 : k = 0
  · subst h0
    go_enter Try.func11, Try.ntmps11
    go_wp2
    go_ret
    exact ⟨rfl, (Below.refl _ _).alloc (Nat.le_refl _) _⟩
  by_cases h1 : k = 1
  · subst h1
    go_enter Try.func11, Try.ntmps11
    go_wp2
    go_ret
    exact ⟨rfl, (Below.refl _ _).alloc (Nat.le_refl _) _⟩
  by_cases h2 : k = 2
  · subst h2
    go_enter Try.func11, Try.ntmps11
    go_wp2
    go_ret
    exact ⟨rfl, (Below.refl _ _).alloc (Nat.le_refl _) _⟩
  rw [if_neg h0, if_neg (by omega)]
  have h0' : (k == 0) = false := by simpa using h0
  have h1' : (k == 1) = false := by simpa using h1
  have h2' : (k == 2) = false := by simpa using h2
  go_enter Try.func11, Try.ntmps11
  go_wp2
  go_ret
  exact ⟨rfl, (Below.refl _ _).alloc (Nat.le_refl _) _⟩
theorem m12 (w : World) : Calls Try.prog 8 #[.int .i64 11, .agg #[.int .i64 1, .int .i64 1], .agg #[.int .i64 1, .int .i64 2]] w fun e w' => e = .returned (.tuple #[.agg #[.int .i64 1, .int .i64 3], .int .i64 0]) ∧ Below w.heap.size w w' :=
  (m_add8 1 2 w).mono fun e w' h => ⟨by have := h.1; rwa [show wrap64 (1 + 2) = 3 from IntWalk.wrap64_in _ (by omega)] at this, h.2⟩
set_option maxHeartbeats 400000 in
theorem alive_any (w : World) : Calls Try.prog 7 #[] w fun e w' => e = .returned (.bool true) ∧ Below w.heap.size w w' := by
  go_enter Try.func7, Try.ntmps7
  go_wp2_with fail
  refine (m12 _).mono ?_; rintro e w1 ⟨rfl, hb⟩
  obtain ⟨hc, hf⟩ := bcell hb
  go_wp2_with (first | (go_at_call 9; refine (num_any _ _).mono ?_; rintro e w2 ⟨rfl, rfl⟩) | (go_at_call 11; refine (truth11 0 0 _).mono ?_; rintro e w2 ⟨rfl, hb2⟩))
  go_ret
  have s1 := hb.size
  exact ⟨by simp [truthB], by repeat (first | exact Below.refl _ _ | exact hb | refine Below.trans ?_ (hb2.mono (by first | omega | (simp; done) | (simp; omega))) | refine Below.alloc ?_ (by first | omega | (simp; done) | (simp; omega)) _)⟩


theorem eqlV (ak an bk bn : Int) (w : World) : (binOp .eql 24 (.agg #[.int .i64 ak, .int .i64 an]) (.agg #[.int .i64 bk, .int .i64 bn])).run Try.prog w = .ok (.bool (ak == bk && an == bn)) w := by
  have hp : Try.prog.stoodInHeld 24 = false := by kernel_rfl
  by_cases h1 : ak = bk <;> by_cases h2 : an = bn <;> simp [go_sem, part, h1, h2, hp]

def sameB (ak an bk bn : Int) : Bool := ak == bk && (ak == 0 || an == bn)
set_option maxHeartbeats 400000 in
theorem same13 (ak an bk bn : Int) (w : World) : Calls Try.prog 13 #[.agg #[.int .i64 ak, .int .i64 an], .agg #[.int .i64 bk, .int .i64 bn]] w fun e w' => e = .returned (.bool (sameB ak an bk bn)) ∧ Below w.heap.size w w' := by
  unfold sameB
  by_cases h1 : ak = bk
  · subst h1
    by_cases h2 : ak = 0
    · subst h2
      go_enter Try.func13, Try.ntmps13
      go_wp2
      go_ret
      exact ⟨by simp_all, (by repeat (first | exact Below.refl _ _ | refine below_alloc ?_ _ | refine below_trans ?_ ‹_› | refine Below.drew ?_))⟩
    · have h2' : (ak == 0) = false := by simpa using h2
      go_enter Try.func13, Try.ntmps13
      go_wp2
      go_ret
      exact ⟨by simp_all, (by repeat (first | exact Below.refl _ _ | refine below_alloc ?_ _ | refine below_trans ?_ ‹_› | refine Below.drew ?_))⟩
  · have h1' : (ak == bk) = false := by simpa using h1
    go_enter Try.func13, Try.ntmps13
    go_wp2
    go_ret
    exact ⟨by simp_all, (by repeat (first | exact Below.refl _ _ | refine below_alloc ?_ _ | refine below_trans ?_ ‹_› | refine Below.drew ?_))⟩
set_option maxHeartbeats 400000 in
theorem same14 (ak an bk bn : Int) (w : World) : Calls Try.prog 14 #[.agg #[.int .i64 ak, .int .i64 an], .agg #[.int .i64 bk, .int .i64 bn]] w fun e w' => e = .returned (.bool (sameB ak an bk bn)) ∧ Below w.heap.size w w' := by
  unfold sameB
  by_cases h1 : ak = bk
  · subst h1
    by_cases h2 : an = bn
    · subst h2
      go_enter Try.func14, Try.ntmps14
      go_wp2
      go_ret
      exact ⟨by simp_all, (by repeat (first | exact Below.refl _ _ | refine below_alloc ?_ _ | refine below_trans ?_ ‹_› | refine Below.drew ?_))⟩
    · have h2' : (an == bn) = false := by simpa using h2
      go_enter Try.func14, Try.ntmps14
      go_wp2
      go_ret
      exact ⟨by simp_all, (by repeat (first | exact Below.refl _ _ | refine below_alloc ?_ _ | refine below_trans ?_ ‹_› | refine Below.drew ?_))⟩
  · have h1' : (ak == bk) = false := by simpa using h1
    go_enter Try.func14, Try.ntmps14
    go_wp2
    go_ret
    exact ⟨by simp_all, (by repeat (first | exact Below.refl _ _ | refine below_alloc ?_ _ | refine below_trans ?_ ‹_› | refine Below.drew ?_))⟩
set_option maxHeartbeats 400000 in
theorem truth12 (k n : Int) (w : World) : Calls Try.prog 12 #[.agg #[.int .i64 k, .int .i64 n]] w fun e w' => e = .returned (.bool (truthB k n)) ∧ Below w.heap.size w w' := by
  unfold truthB
  by_cases h0 : k = 0
  · subst h0
    go_enter Try.func12, Try.ntmps12
    go_wp2
    go_ret
    exact ⟨rfl, (by repeat (first | exact Below.refl _ _ | refine below_alloc ?_ _ | refine below_trans ?_ ‹_› | refine Below.drew ?_))⟩
  have h0' : (k != 0) = true := by simpa using h0
  by_cases h3 : k = 3
  · subst h3
    go_enter Try.func12, Try.ntmps12
    go_wp2
    go_ret
    exact ⟨rfl, (by repeat (first | exact Below.refl _ _ | refine below_alloc ?_ _ | refine below_trans ?_ ‹_› | refine Below.drew ?_))⟩
  have h3' : (k == 3) = false := by simpa using h3
  by_cases hn : n = 0
  · subst hn
    by_cases h1 : k = 1
    · subst h1
      go_enter Try.func12, Try.ntmps12
      go_wp2
      go_ret
      exact ⟨rfl, (by repeat (first | exact Below.refl _ _ | refine below_alloc ?_ _ | refine below_trans ?_ ‹_› | refine Below.drew ?_))⟩
    have h1' : (k != 1) = true := by simpa using h1
    by_cases h2 : k = 2
    · subst h2
      go_enter Try.func12, Try.ntmps12
      go_wp2
      go_ret
      exact ⟨rfl, (by repeat (first | exact Below.refl _ _ | refine below_alloc ?_ _ | refine below_trans ?_ ‹_› | refine Below.drew ?_))⟩
    have h2' : (k != 2) = true := by simpa using h2
    rw [if_neg h0, if_neg (by omega)]
    go_enter Try.func12, Try.ntmps12
    go_wp2
    go_ret
    exact ⟨rfl, (by repeat (first | exact Below.refl _ _ | refine below_alloc ?_ _ | refine below_trans ?_ ‹_› | refine Below.drew ?_))⟩
  have hn' : (n != 0) = true := by simpa using hn
  rw [if_neg h0]
  have hx : (if k = 1 ∨ k = 2 then n != 0 else true) = true := by split <;> simp [hn]
  rw [hx]
  go_enter Try.func12, Try.ntmps12
  go_wp2
  go_ret
  exact ⟨rfl, (by repeat (first | exact Below.refl _ _ | refine below_alloc ?_ _ | refine below_trans ?_ ‹_› | refine Below.drew ?_))⟩
set_option maxHeartbeats 1000000 in
theorem kinds_out (op ak an bk bn : Int) (h : ak < 0 ∨ 3 < ak ∨ bk < 0 ∨ 3 < bk ∨ op < 11 ∨ 16 < op) (w : World) : Calls Try.prog 4 #[.int .i64 op, .agg #[.int .i64 ak, .int .i64 an], .agg #[.int .i64 bk, .int .i64 bn]] w fun e w' => e = .returned (.bool true) ∧ Below w.heap.size w w' := by
  go_enter Try.func4, Try.ntmps4
  go_wp2_with (first | (go_at_call 7; refine (alive_any _).mono ?_; rintro e w1 ⟨rfl, hb1⟩; obtain ⟨hc1, hf1⟩ := bcell hb1))
  all_goals first
    | (exfalso; omega)
    | (go_ret; exact ⟨rfl, (by repeat (first | exact Below.refl _ _ | refine below_alloc ?_ _ | refine below_trans ?_ ‹_› | refine Below.drew ?_))⟩)
set_option maxHeartbeats 1000000 in
theorem kinds_in (op ak an bk bn vk vn e0 : Int) (h0 : 0 ≤ ak) (h1 : ak ≤ 3) (h2 : 0 ≤ bk) (h3 : bk ≤ 3) (h4 : 11 ≤ op) (h5 : op ≤ 16) (hm : ∀ w, Calls Try.prog 8 #[.int .i64 op, .agg #[.int .i64 ak, .int .i64 an], .agg #[.int .i64 bk, .int .i64 bn]] w (MathPost (vk, vn, e0) w))
    (h6 : ((ak == 1) = true ∧ (bk == 1) = true ∧ ((e0 == 0) = true ∨ (e0 == 0) = false ∧ (e0 == 14) = true ∧ (bn == 0) = true ∧ ((op == 14) = true ∨ (op == 14) = false ∧ (op == 15) = true))) ∨ (((ak == 1) = false ∨ (ak == 1) = true ∧ (bk == 1) = false) ∧ (e0 == 5) = true ∧ (vk == 0) = true ∧ (vn == 0) = true)) (w : World) : Calls Try.prog 4 #[.int .i64 op, .agg #[.int .i64 ak, .int .i64 an], .agg #[.int .i64 bk, .int .i64 bn]] w fun e w' => e = .returned (.bool true) ∧ Below w.heap.size w w' := by
  have heq := eqlV
  have HM := Lib.hid hm
  clear hm
  rcases h6 with ⟨ha, hb, h7 | ⟨h7, h8, h9, h10 | ⟨h10, h11⟩⟩⟩ | ⟨ha | ⟨ha, hb⟩, h7, h8, h9⟩
  all_goals
    go_enter Try.func4, Try.ntmps4
    go_wp2_with (first | (go_at_call 7; refine (alive_any _).mono ?_; rintro e w1 ⟨rfl, hb1⟩; obtain ⟨hc1, hf1, hz1⟩ := bcell3 hb1; (try simp only [World.size_alloc] at hz1); have hy1 : w.heap.size < w1.heap.size := (by omega); have hx1 : w.heap.size + 1 < w1.heap.size := (by omega)) | (go_at_call 8; refine (HM.out _).mono ?_; rintro e w2 ⟨rfl, hb2⟩; obtain ⟨hc2, hf2, hz2⟩ := bcell3 hb2; (try simp only [World.size_alloc] at hz2); have hy2 : w.heap.size < w2.heap.size := (by omega); have hx2 : w.heap.size + 1 < w2.heap.size := (by omega)) | (go_at_call 9; refine (num_any _ _).mono ?_; rintro e w3 ⟨rfl, rfl⟩))
    go_ret
    exact ⟨by simp, (by repeat (first | exact Below.refl _ _ | refine below_alloc ?_ _ | refine below_trans ?_ ‹_› | refine Below.drew ?_))⟩

/-- The worlds behind some calls that only lay blocks: what was there at first, and every cell that W held, reads as it did. -/
def Keep (w W : World) : Type := { x : World // Below w.heap.size w x ∧ ∀ a v, W.cell? a = some v → x.cell? a = some v }
theorem Keep.step {w W w2 : World} (n : Keep w W) (h : Below n.val.heap.size n.val w2) : ∃ m : Keep w W, w2 = m.val :=
  ⟨⟨w2, below_trans n.property.1 h, fun a v ha => by
    have h1 := n.property.2 a v ha
    rw [h.cell (World.block_lt_of_cell? _ _ h1)]; exact h1⟩, rfl⟩
theorem Keep.cell {w W : World} {a : Addr} {v : Value} (h : W.cell? a = some v) (n : Keep w W) : n.val.cell? a = some v := n.property.2 a v h
theorem Keep.call {P : Program} {f : FuncId} {args : Array Value} {w W : World} (n : Keep w W) {v : Value}
    (h : Calls P f args n.val fun e w' => e = .returned v ∧ Below n.val.heap.size n.val w') : Calls P f args n.val fun e w' => e = .returned v ∧ ∃ m : Keep w W, w' = m.val :=
  h.mono fun _ _ ⟨he, hb⟩ => ⟨he, n.step hb⟩
theorem wp_region_keep {P : Program} {id : Nat} {Q : Exit → Act → World → Prop} {a : Act} {w W : World} {l : List Oper} (hm : P.follows .mixedOrders = true) (hB : Region.lexB .any l.toArray = true) (hb : Below w.heap.size w W)
    (h : Nonempty (Keep w W) → wpQuiet P l.toArray (fun w' => ∃ n : Keep w W, w' = n.val) (fun a' => ∀ w', (∃ n : Keep w W, w' = n.val) → Q .normal a' w') l a) : (Code.region id l.toArray true).wp P Q a W :=
  wp_region_quiet (C := fun w' => ∃ n : Keep w W, w' = n.val) hm hB ⟨⟨W.drew, hb.drew, fun _ _ h => h⟩, rfl⟩ (by simpa using h ⟨⟨W, hb, fun _ _ h => h⟩⟩)
end Go.Proofs.Ytgeobfdaoafklaa
