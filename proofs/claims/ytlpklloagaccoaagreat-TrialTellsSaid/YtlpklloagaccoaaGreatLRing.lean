/- Rings of objects with two cells, as laws make and set them: calls. Conditions: fifty objects at most. -/
import Derived.Test.YtlpklloagaccoaaGreatLaw14
namespace Go.Proofs.YtlpklloagaccoaaGreat
open Go.RowKit
set_option linter.unusedVariables false

theorem hL_at {o : Own} {w : World} {r c n cap : Nat} {A : Option Addr} (h : LRow o w r (.slice A n cap) (hL c n)) {i : Nat} (hi : i < n) : ∃ g, A = some ⟨g, 0, none⟩ ∧ g < w.heap.size ∧ w.cell? ⟨g, i, none⟩ = some (.int .i64 (hI c i)) := by
  obtain ⟨g, h1, h2, h3, _, _⟩ := h.at_ (i := i) (by rw [hL_len]; exact hi)
  rw [hL_getD hi] at h3
  exact ⟨g, h1, h2, h3⟩
/-- As they are made. -/
def R2Mk (o : Own) (w : World) (p i : Nat) : Prop := RgAt o w p 40 2 i (hL 2 i) 1000 0 (fun _ => 2) (fun _ _ => True) (fun _ _ => False) (fun _ => false) []
theorem R2Mk.keep {lo hi : Nat} {o o' : Own} {w w' : World} {p i : Nat} (h : R2Mk o w p i) (k : Fr lo hi o o' w w') (hr : 30 ≤ lo ∨ hi ≤ 1) : R2Mk o' w' p i := RgAt.keep h k hr
/-- The first i are set; their edges, by a function. -/
def R2At (o : Own) (w : World) (p n : Nat) (E : Nat → Nat) (i : Nat) : Prop := ∃ T F R, RgAt o w p 40 2 n (hL 2 n) 1000 T (fun _ => 2) F R (fun _ => false) [] ∧ T ≤ 2 * i ∧ (∀ j, i ≤ j → ∀ q, F (hI 2 j) q) ∧ (∀ j, j < i → R (hI 2 j) (hI 2 (E j)))
def R2Mid (o : Own) (w : World) (p n : Nat) (E : Nat → Nat) (i : Nat) : Prop := ∃ T F R, RgAt o w p 40 2 n (hL 2 n) 1000 T (fun _ => 2) F R (fun _ => false) [] ∧ T ≤ 2 * i + 1 ∧ (∀ j, i < j → ∀ q, F (hI 2 j) q) ∧ F (hI 2 i) 1 ∧ (∀ j, j < i + 1 → R (hI 2 j) (hI 2 (E j)))
theorem R2At.keep {lo hi : Nat} {o o' : Own} {w w' : World} {p n i : Nat} {E : Nat → Nat} (h : R2At o w p n E i) (k : Fr lo hi o o' w w') (hr : 30 ≤ lo ∨ hi ≤ 1) : R2At o' w' p n E i := let ⟨T, F, R, A, B⟩ := h; ⟨T, F, R, A.keep k hr, B⟩
theorem R2Mid.keep {lo hi : Nat} {o o' : Own} {w w' : World} {p n i : Nat} {E : Nat → Nat} (h : R2Mid o w p n E i) (k : Fr lo hi o o' w w') (hr : 30 ≤ lo ∨ hi ≤ 1) : R2Mid o' w' p n E i := let ⟨T, F, R, A, B⟩ := h; ⟨T, F, R, A.keep k hr, B⟩
theorem R2Mk.at {o : Own} {w : World} {p n : Nat} {E : Nat → Nat} (h : R2Mk o w p n) : R2At o w p n E 0 := ⟨0, _, _, h, by omega, fun j _ q => trivial, fun j hj => absurd hj (by omega)⟩
theorem R2Mid.skip {o : Own} {w : World} {p n i : Nat} {E : Nat → Nat} (h : R2Mid o w p n E i) : R2At o w p n E (i + 1) := let ⟨T, F, R, A, a, b, c, d⟩ := h; ⟨T, F, R, A, by omega, fun j hj => b j (by omega), d⟩
section
variable {o : Own} {p n i : Nat} {E : Nat → Nat}
theorem r2_first {w : World} (E : EngRep o w 1 p (newEng 40 1000)) : R2Mk o w p 0 := rg_first E (c := 2) (by omega) (fun _ => 2)
theorem r2_make (w0 w1 : World) (G : Fr 0 0 o o w0 w1) (A : R2Mk o w0 p i) (hi : i < 60) :
    Calls Tryz.prog 66 #[.pointer (some ⟨p, 0, none⟩), .int .i64 7, .int .i64 2, .int .i64 0] w1 fun e w' => ∃ o', e = .returned (.tuple #[.int .i64 (hI 2 i), .int .i64 0]) ∧ Fr 1 30 o o' w0 w' ∧ R2Mk o' w' p (i + 1) := by
  refine (rg_make 7 2 7 2 rfl rfl w0 w1 G A (by omega) (by omega) (by omega) (by decide) (by show 2 + i / 8 ≤ 40; omega) rfl).mono fun e w' hh => ?_
  obtain ⟨o', h1, h2, h3⟩ := hh
  refine ⟨o', h1, h2, ?_⟩
  rw [← hL_succ] at h3
  exact h3
theorem hI_in64 {c k : Nat} (hc : c < 5) (hk : k ≤ 1000) : in64 (hI c k) := by
  have := hI_rng hc hk
  unfold in64; unfold KB at this; omega
theorem r2_set0 {m : Nat} (w0 w1 : World) (G : Fr 0 0 o o w0 w1) (A : R2At o w0 p n E i) (hi : i < n) (hn : n ≤ 60) (hm : m < n) (hE : E i = m) :
    Calls Tryz.prog 68 #[.pointer (some ⟨p, 0, none⟩), .int .i64 (hI 2 i), .int .i64 0, .agg #[.int .i64 3, .int .i64 (hI 2 m)]] w1 fun e w' => ∃ o', e = .returned (.int .i64 0) ∧ Fr 1 30 o o' w0 w' ∧ R2Mid o' w' p n E i := by
  obtain ⟨T, F, R, A, hT, hF, hR⟩ := A
  refine (rg_set 0 0 rfl w0 w1 G A (mem_hL.2 ⟨i, hi, rfl⟩) (by omega) (hF i (Nat.le_refl _) 0) (mem_hL.2 ⟨m, hm, rfl⟩) (by omega) (hI_in64 (by omega) (by omega))).mono fun e w' hh => ?_
  obtain ⟨o', h1, h2, h3⟩ := hh
  refine ⟨o', h1, h2, _, _, _, h3, by omega, fun j hj q => ⟨hF j (by omega) q, fun e => by have := hI_inj (by omega) e.1; omega⟩, ⟨hF i (Nat.le_refl _) 1, fun e => by have := e.2; omega⟩, fun j hj => ?_⟩
  by_cases e : j = i
  · subst e; rw [hE]; exact .inr ⟨rfl, rfl⟩
  · exact .inl (hR j (by omega))
theorem r2_set1 {m : Nat} (w0 w1 : World) (G : Fr 0 0 o o w0 w1) (A : R2Mid o w0 p n E i) (hi : i < n) (hn : n ≤ 60) (hm : m < n) :
    Calls Tryz.prog 68 #[.pointer (some ⟨p, 0, none⟩), .int .i64 (hI 2 i), .int .i64 1, .agg #[.int .i64 3, .int .i64 (hI 2 m)]] w1 fun e w' => ∃ o', e = .returned (.int .i64 0) ∧ Fr 1 30 o o' w0 w' ∧ R2At o' w' p n E (i + 1) := by
  obtain ⟨T, F, R, A, hT, hF, hF1, hR⟩ := A
  refine (rg_set 1 1 rfl w0 w1 G A (mem_hL.2 ⟨i, hi, rfl⟩) (by omega) hF1 (mem_hL.2 ⟨m, hm, rfl⟩) (by omega) (hI_in64 (by omega) (by omega))).mono fun e w' hh => ?_
  obtain ⟨o', h1, h2, h3⟩ := hh
  exact ⟨o', h1, h2, _, _, _, h3, by omega, fun j hj q => ⟨hF j (by omega) q, fun e => by have := hI_inj (by omega) e.1; omega⟩, fun j hj => .inl (hR j hj)⟩
/-! ### a box that refers to one of the ring -/
def BxAt (o : Own) (w : World) (p n : Nat) (b : Int) : Prop := ∃ S T F R, EngRep o w 1 p S ∧ RgS S (hL 2 n ++ [b]) 1000 T (fun k => if k = b then 1 else 2) F R (fun _ => false) [] ∧ RingR 2 n R ∧ (∀ y k, R y k → y ∈ hL 2 n ∧ k ∈ hL 2 n) ∧ F b 0 ∧ T ≤ 200 ∧ b ∉ hL 2 n ∧ 0 ≤ b ∧ b < KB
def ByAt (o : Own) (w : World) (p n : Nat) (b : Int) : Prop := ∃ S a T F R, EngRep o w 1 p S ∧ BoxS S 2 n a b 1000 T (fun k => if k = b then 1 else 2) F R
theorem r2_box (w0 w1 : World) (G : Fr 0 0 o o w0 w1) (A : R2At o w0 p n (fun j => (j + 1) % n) n) (hn : n ≤ 50) :
    Calls Tryz.prog 66 #[.pointer (some ⟨p, 0, none⟩), .int .i64 5, .int .i64 1, .int .i64 0] w1 fun e w' => ∃ (b : Int) (o' : Own), e = .returned (.tuple #[.int .i64 b, .int .i64 0]) ∧ Fr 1 30 o o' w0 w' ∧ BxAt o' w' p n b := by
  obtain ⟨T, F, R, ⟨S, E, M, al⟩, hT, hF, hR⟩ := A
  have hLn := al.n
  have hLt := al.t
  obtain ⟨L', b, hTk, ht2, _⟩ := tookL_room S.L (wordsN 1 0) (by
    rw [hLn, hLt]
    show 1 + (n + 8 - 1) / 8 + (4 / 64 + 1) ≤ 40
    omega)
  refine (rmake 5 1 0 5 1 0 rfl rfl rfl L' b w1 G.fresh (E.keep G (.inr (Nat.zero_le _))) al.ok (by omega) (by omega) (by omega) hTk).mono fun e w' hh => ?_
  obtain ⟨⟨h1, o', F', E'⟩, h2, _, h4, h5, h6⟩ := hh
  have hnb : (b : Int) ∉ hL 2 n := fun hb => by
    obtain ⟨x, hx⟩ := (M.G.mem _).1 hb
    rw [h2] at hx; cases hx
  have hin : ∀ y k, R y k → y ∈ hL 2 n ∧ k ∈ hL 2 n := fun y k hy => by
    have hk := (M.refs y k).2 hy
    refine ⟨?_, M.cl y k hk⟩
    refine (M.G.mem y).2 ?_
    cases hx : S.ob y with
    | none => rw [refsA_none hx] at hk; cases hk
    | some x => exact ⟨x, rfl⟩
  have M1 := (M.withK (K' := fun k => if k = (b : Int) then 1 else 2) (fun k hk => (if_neg (fun e => hnb (by rw [← e]; exact hk))).symm)).make (L' := L') (a := b) (kind := 5) (cells := 1) (raw := 0) (by omega) h2 (if_pos rfl)
  have hrb := E'.rng (x := newOb 5 1 0) (h := (b : Int)) (if_pos rfl)
  have hob : (makeA S L' b 5 1 0).ob (b : Int) = some (newOb 5 1 0) := if_pos rfl
  have M2 : RgS (makeA S L' b 5 1 0) (hL 2 n ++ [(b : Int)]) 1000 T (fun k => if k = (b : Int) then 1 else 2) (fun k q => k = (b : Int)) R (fun _ => false) [] := ⟨M1.G, M1.cl, M1.lim, fun k hk => by
    obtain ⟨x, k1, k2, k3⟩ := M1.obj k hk
    refine ⟨x, k1, k2, fun q hq => ?_⟩
    have hq' : k = (b : Int) := hq
    rw [hq', hob] at k1
    cases k1
    exact fun e => (by cases e), M1.tot, M1.refs, M1.wat, M1.pend⟩
  exact ⟨_, o', h1, (G.none 1 30).trans F', _, _, _, _, E', M2, hR, hin, rfl, by omega, hnb, hrb⟩
theorem bx_set {a : Nat} {b : Int} (w0 w1 : World) (G : Fr 0 0 o o w0 w1) (A : BxAt o w0 p n b) (ha : a < n) (hn : n ≤ 50) :
    Calls Tryz.prog 68 #[.pointer (some ⟨p, 0, none⟩), .int .i64 b, .int .i64 0, .agg #[.int .i64 3, .int .i64 (hI 2 a)]] w1 fun e w' => ∃ o', e = .returned (.int .i64 0) ∧ Fr 1 30 o o' w0 w' ∧ ByAt o' w' p n b := by
  obtain ⟨S, T, F, R, E, M, hR, hin, hF, hT, hnb, hb0, hb1⟩ := A
  have hm : hI 2 a ∈ hL 2 n := mem_hL.2 ⟨a, ha, rfl⟩
  obtain ⟨x, hx, hc, hf⟩ := M.obj b (by simp)
  have hc1 : x.cells = 1 := hc.trans (if_pos rfl)
  refine (rset b 0 x 0 3 (hI 2 a) w1 (by omega) G.fresh (E.keep G (.inr (Nat.zero_le _))) hx rfl (by omega) (by omega) (hI_in64 (by omega) (by omega)) (fun _ => (M.G.mem _).1 (by simp [hm])) (fun _ e => absurd e (hf 0 hF))).mono fun e w' hh => ?_
  obtain ⟨h3, o', F', E'⟩ := hh
  obtain ⟨M', _, _⟩ := M.set (y := b) (n := hI 2 a) (i := 0) (by simp) (by rw [if_pos rfl]; omega) hF (by simp [hm]) (by omega) hx
  refine ⟨o', h3, (G.none 1 30).trans F', _, a, _, _, _, E', ⟨M', fun j hj => .inl (hR j hj), fun k => ?_, fun y hy => ?_, ha, hnb, by omega, by omega, fun k => by split <;> omega, hb0, hb1⟩⟩
  · constructor
    · rintro (h | ⟨_, h⟩)
      · exact absurd (hin _ _ h).1 hnb
      · exact h
    · exact fun h => .inr ⟨rfl, h⟩
  · rcases hy with h | ⟨_, h⟩
    · exact absurd (hin _ _ h).2 hnb
    · exact hnb (by rw [h]; exact hm)
theorem by_run {b : Int} (w0 w1 : World) (G : Fr 0 0 o o w0 w1) (A : ByAt o w0 p n b) {g : Option Addr} {cc : Nat} (Rd : RdS w1 w1.heap.size .i64 g 1 [b]) (hg : ∀ b off, g = some ⟨b, off, none⟩ → o b < 1) :
    Calls Tryz.prog 85 #[.pointer (some ⟨p, 0, none⟩), .slice g 1 cc] w1 (TrnPost o w0 [] [] fun o' w' => ByAt o' w' p n b) := by
  obtain ⟨S, a, T, F, R, E, B⟩ := A
  have X := B.rg.fit (roots := [b]) (fun k hk => by simp only [List.mem_singleton] at hk; subst hk; simp) (fun k hk => (by cases hk)) B.hrng (by simp)
  exact (trial_run g 1 cc [b] w1 G.fresh (E.keep G (.inr (Nat.zero_le _))) Rd (fun b off h => .inl (hg b off h)) B.held X).mono fun e w' hh => hh.law G fun o' w' E' => ⟨S, a, T, F, R, E', B⟩
theorem by_sweep {b : Int} (w0 w1 : World) (G : Fr 0 0 o o w0 w1) (A : ByAt o w0 p n b) :
    Calls Tryz.prog 86 #[.pointer (some ⟨p, 0, none⟩), .slice none 0 0] w1 fun e w' => ∃ f, TrnPost o w0 f [] (fun o' w' => EmAt o' w' p) e w' := by
  obtain ⟨S, a, T, F, R, E, B⟩ := A
  obtain ⟨S', f, D, hl, hE⟩ := B.sweep
  exact (full_run none 0 0 [] w1 G.fresh (E.keep G (.inr (Nat.zero_le _))) (rd_nil _ _) (fun b off h => (by cases h)) D (by simp; omega)).mono fun e w' hh => ⟨f, hh.law G fun o' w' E' => ⟨_, E', hE⟩⟩
theorem R2At.ring {o : Own} {w : World} (A : R2At o w p n (fun j => (j + 1) % n) n) : ∃ T F R, RgAt o w p 40 2 n (hL 2 n) 1000 T (fun _ => 2) F R (fun _ => false) [] ∧ RingR 2 n R := let ⟨T, F, R, A, _, _, h⟩ := A; ⟨T, F, R, A, h⟩
end
end Go.Proofs.YtlpklloagaccoaaGreat
