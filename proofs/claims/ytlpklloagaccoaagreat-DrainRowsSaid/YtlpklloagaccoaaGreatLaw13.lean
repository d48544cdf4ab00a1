/- Rows of boxes of which each refers to the next one; drains over them: calls. Conditions: room; sixty boxes at most. What several boxes refer to, and a row of which the first one is watched: calls. Conditions: room; twenty boxes at most. The laws of drains: what they have in common (alive). No condition. -/
import Derived.Test.YtlpklloagaccoaaGreatRing
import Derived.Test.YtlpklloagaccoaaGreatRun4
import Derived.Test.YtlpklloagaccoaaGreatTells
import Derived.Test.YtlpklloagaccoaaGreatLaw12
import Derived.Test.YtlpklloagaccoaaGreatLTells
import Derived.BigQuiet
import Derived.Outline
namespace Go.Proofs.YtlpklloagaccoaaGreat
open Go.RowKit
set_option linter.unusedVariables false

theorem one_ref {l : List Int} (h : l.length ≤ 1) {k : Int} (hk : k ∈ l) : l = [k] := by
  cases l with
  | nil => cases hk
  | cons a m =>
    cases m with
    | nil => simp only [List.mem_singleton] at hk; rw [hk]
    | cons b m => simp at h
theorem RgS.refs_le {S : EngS} {hs : List Int} {lim : Int} {T : Nat} {K : Int → Nat} {F : Int → Nat → Prop} {R : Int → Int → Prop} {W : Int → Bool} {pl : List Int} (h : RgS S hs lim T K F R W pl) {y : Int} (hy : y ∈ hs) : (refsA S y).length ≤ K y := by
  obtain ⟨x, h1, h2, _⟩ := h.obj y hy
  rw [refsA_of (h.G.weak y) h1, ← h2]
  exact refsN_len _ _
def chR (c i : Nat) : Int → Int → Prop := fun y k => ∃ j, j + 1 < i ∧ y = hI c j ∧ k = hI c (j + 1)
theorem ChnR_range {S : EngS} (c : Nat) : ∀ (m a : Nat), (∀ j, a ≤ j → j < a + m → refsA S (hI c j) = if j + 1 < a + m then [hI c (j + 1)] else []) → ChnR S ((List.range' a m).map (hI c))
  | 0, a, _ => trivial
  | m + 1, a, h => by
    rw [List.range'_succ, List.map_cons]
    refine ⟨?_, ChnR_range c m (a + 1) fun j h1 h2 => by
      have h3 := h j (by omega) (by omega)
      rw [h3]
      by_cases e : j + 1 < a + (m + 1)
      · rw [if_pos e, if_pos (by omega)]
      · rw [if_neg e, if_neg (by omega)]⟩
    rw [h a (Nat.le_refl _) (by omega)]
    cases m with
    | zero => rw [if_neg (by omega)]; rfl
    | succ m => rw [if_pos (by omega), List.range'_succ]; rfl
theorem RgS.chn {S : EngS} {n : Nat} {lim : Int} {T : Nat} {F : Int → Nat → Prop} (h : RgS S (hL 1 n) lim T (fun _ => 1) F (chR 1 n) (fun _ => false) []) (hn : n ≤ 60) : Chn S (hL 1 n) := by
  refine ⟨h.G, ?_, fun k => by rw [h.wat], h.pend, fun k hk => ?_, by rw [hL_len]; exact hn⟩
  · unfold hL
    rw [List.range_eq_range']
    refine ChnR_range 1 n 0 fun j _ hj => ?_
    have hm : hI 1 j ∈ hL 1 n := mem_hL.2 ⟨j, by omega, rfl⟩
    have hle := h.refs_le hm
    by_cases e : j + 1 < 0 + n
    · rw [if_pos e]
      exact one_ref hle ((h.refs _ _).2 ⟨j, by omega, rfl, rfl⟩)
    · rw [if_neg e]
      refine List.eq_nil_iff_forall_not_mem.2 fun k hk => ?_
      obtain ⟨i, h1, h2, _⟩ := (h.refs _ _).1 hk
      have := hI_inj (by omega) h2
      omega
  · obtain ⟨j, h1, rfl⟩ := mem_hL.1 hk
    exact hI_rng (by omega) (by omega)
/-! ### as they are made -/
def RwF (i : Nat) : Int → Nat → Prop := fun k _ => ∀ j, j + 1 < i → k ≠ hI 1 j
def RwAt (o : Own) (w : World) (p N : Nat) (lim : Int) (i : Nat) : Prop := RgAt o w p N 1 i (hL 1 i) lim i (fun _ => 1) (RwF i) (chR 1 i) (fun _ => false) []
def RwMid (o : Own) (w : World) (p N : Nat) (lim : Int) (i : Nat) : Prop := RgAt o w p N 1 (i + 1) (hL 1 (i + 1)) lim i (fun _ => 1) (RwF i) (chR 1 i) (fun _ => false) []
theorem RwAt.keep {lo hi : Nat} {o o' : Own} {w w' : World} {p N i : Nat} {lim : Int} (h : RwAt o w p N lim i) (k : Fr lo hi o o' w w') (hr : 30 ≤ lo ∨ hi ≤ 1) : RwAt o' w' p N lim i := RgAt.keep h k hr
theorem RwMid.keep {lo hi : Nat} {o o' : Own} {w w' : World} {p N i : Nat} {lim : Int} (h : RwMid o w p N lim i) (k : Fr lo hi o o' w w') (hr : 30 ≤ lo ∨ hi ≤ 1) : RwMid o' w' p N lim i := RgAt.keep h k hr
section
variable {o : Own} {p N i : Nat} {lim : Int}
theorem rw_first {w : World} (E : EngRep o w 1 p (newEng N lim)) : RwAt o w p N lim 0 :=
  (rg_first E (c := 1) (by omega) (fun _ => 1)).congr (Nat.le_refl _) (fun _ _ _ _ => trivial) fun y k => ⟨fun h => h.elim, fun ⟨j, h, _⟩ => absurd h (by omega)⟩
theorem rw_make (w0 w1 : World) (G : Fr 0 0 o o w0 w1) (A : RwAt o w0 p N lim i) (hroom : 2 + i / 16 ≤ N) :
    Calls Tryz.prog 66 #[.pointer (some ⟨p, 0, none⟩), .int .i64 5, .int .i64 1, .int .i64 0] w1 fun e w' => ∃ o', e = .returned (.tuple #[.int .i64 (hI 1 i), .int .i64 0]) ∧ Fr 1 30 o o' w0 w' ∧ RwMid o' w' p N lim i := by
  refine (rg_make 5 1 5 1 rfl rfl w0 w1 G A (by omega) (by omega) (by omega) (by decide) hroom rfl).mono fun e w' hh => ?_
  obtain ⟨o', h1, h2, h3⟩ := hh
  refine ⟨o', h1, h2, ?_⟩
  rw [← hL_succ] at h3
  exact h3
theorem RwMid.skip {w : World} (A : RwMid o w p N lim 0) : RwAt o w p N lim 1 :=
  RgAt.congr A (by omega) (fun k q _ _ j h => absurd h (by omega)) fun y k => ⟨fun ⟨j, h, _⟩ => absurd h (by omega), fun ⟨j, h, _⟩ => absurd h (by omega)⟩
theorem rw_set (w0 w1 : World) (G : Fr 0 0 o o w0 w1) (A : RwMid o w0 p N lim (i + 1)) (hi : i < 100) (hl : (i : Int) + 2 < lim) :
    Calls Tryz.prog 68 #[.pointer (some ⟨p, 0, none⟩), .int .i64 (hI 1 i), .int .i64 0, .agg #[.int .i64 3, .int .i64 (hI 1 (i + 1))]] w1 fun e w' => ∃ o', e = .returned (.int .i64 0) ∧ Fr 1 30 o o' w0 w' ∧ RwAt o' w' p N lim (i + 2) := by
  have hr := hI_rng (c := 1) (by omega) (k := i + 1) (by omega)
  refine (rg_set 0 0 rfl w0 w1 G A (mem_hL.2 ⟨i, by omega, rfl⟩) (by omega) (fun j hj e => by have := hI_inj (by omega) e; omega) (mem_hL.2 ⟨i + 1, by omega, rfl⟩) (by omega) (by unfold in64; unfold KB at hr; omega)).mono fun e w' hh => ?_
  obtain ⟨o', h1, h2, h3⟩ := hh
  refine ⟨o', h1, h2, RgAt.congr h3 (by omega) (fun k q _ hk => ⟨fun j hj => hk j (by omega), fun e => hk i (by omega) e.1⟩) fun y k => ?_⟩
  constructor
  · rintro (⟨j, h4, h5, h6⟩ | ⟨h5, h6⟩)
    · exact ⟨j, by omega, h5, h6⟩
    · exact ⟨i, by omega, h5, h6⟩
  · rintro ⟨j, h4, h5, h6⟩
    by_cases e : j = i
    · subst e; exact .inr ⟨h5, h6⟩
    · exact .inl ⟨j, by omega, h5, h6⟩
end
/-! ### as they stand -/
def ChAt (o : Own) (w : World) (p : Nat) (l : List Int) : Prop := ∃ S, EngRep o w 1 p S ∧ Chn S l
theorem ChAt.keep {lo hi : Nat} {o o' : Own} {w w' : World} {p : Nat} {l : List Int} (h : ChAt o w p l) (k : Fr lo hi o o' w w') (hr : 30 ≤ lo ∨ hi ≤ 1) : ChAt o' w' p l := let ⟨S, E, C⟩ := h; ⟨S, E.keep k (by omega), C⟩
theorem RwAt.ch {o : Own} {w : World} {p N n : Nat} {lim : Int} (A : RwAt o w p N lim n) (hn : n ≤ 60) : ChAt o w p (hL 1 n) := let ⟨S, E, M, _⟩ := A; ⟨S, E, M.chn hn⟩
/-- Behind a drain, as laws read it. -/
def DrnPost (o : Own) (w0 : World) (f t : List Int) (Q : Own → World → Prop) (e : Ending) (w' : World) : Prop :=
  ∃ A1 c1 A2 c2 o', e = .returned (.tuple #[.slice A1 f.length c1, .slice A2 t.length c2]) ∧ Fr 1 57 o o' w0 w' ∧ RdS w' w'.heap.size .i64 A1 f.length f ∧ RdS w' w'.heap.size .i64 A2 t.length t ∧ Q o' w'
theorem RunPost.law {o : Own} {w0 w1 : World} {p : Nat} {S' : EngS} {f t : List Int} {Q : Own → World → Prop} {e : Ending} {w' : World} (G : Fr 0 0 o o w0 w1) (h : RunPost o w1 p S' f t e w') (hQ : ∀ o' w', EngRep o' w' 1 p S' → Q o' w') : DrnPost o w0 f t Q e w' := by
  obtain ⟨vf, vt, o', h1, h2, h3, h4, h5⟩ := h
  obtain ⟨A1, c1, e1, r1⟩ := h4.rd
  obtain ⟨A2, c2, e2, r2⟩ := h5.rd
  subst e1 e2
  exact ⟨A1, c1, A2, c2, o', h1, (G.none 1 57).trans h2, r1, r2, hQ _ _ h3⟩
theorem rd_nil (w : World) (B : Nat) : RdS w B .i64 none 0 [] := ⟨rfl, fun h => absurd h (Nat.lt_irrefl 0)⟩
section
variable {o : Own} {p : Nat} {l : List Int}
theorem Chn.bounds {S : EngS} (C : Chn S l) {rs : List Int} (hr : ∀ k ∈ rs, k ∈ l) (hrl : rs.length ≤ 60) : (∀ k ∈ rs ++ S.pend, 0 ≤ k ∧ k < KB) ∧ rs.length + S.pend.length ≤ 1000000 := by
  rw [C.pend, List.append_nil]
  exact ⟨fun k hk => C.rng k (hr k hk), by simp; omega⟩
theorem Gd.zrng {S : EngS} {hs : List Int} (G : Gd S hs) (hr : ∀ k ∈ hs, 0 ≤ k ∧ k < KB) : ∀ k, S.Z k = true → 0 ≤ k ∧ k < KB := fun k hk => hr k ((G.zero k).1 hk).1
theorem ch_run (w0 w1 : World) (G : Fr 0 0 o o w0 w1) (A : ChAt o w0 p l) :
    Calls Tryz.prog 83 #[.pointer (some ⟨p, 0, none⟩), .slice none 0 0] w1 (DrnPost o w0 l [] fun o' w' => ChAt o' w' p []) := by
  obtain ⟨S, E, C⟩ := A
  obtain ⟨S', D, C'⟩ := C.drAll
  obtain ⟨b1, b2⟩ := C.bounds (rs := []) (by simp) (by simp)
  exact (drain_run none 0 0 [] w1 G.fresh (E.keep G (.inr (Nat.zero_le _))) (rd_nil _ _) D b1 b2 (C.G.zrng C.rng)).mono fun e w' hh => hh.law G fun o' w' E' => ⟨S', E', C'⟩
theorem ch_run_at (w0 w1 : World) (G : Fr 0 0 o o w0 w1) (A : ChAt o w0 p l) {j : Nat} (hj : j < l.length) {g : Option Addr} {c : Nat} (R : RdS w1 w1.heap.size .i64 g 1 [l.getD j 0]) :
    Calls Tryz.prog 83 #[.pointer (some ⟨p, 0, none⟩), .slice g 1 c] w1 (DrnPost o w0 (l.take j) [] fun o' w' => ChAt o' w' p (l.drop j)) := by
  obtain ⟨S, E, C⟩ := A
  obtain ⟨S', D, C'⟩ := C.drAt hj
  obtain ⟨b1, b2⟩ := C.bounds (rs := [l.getD j 0]) (fun k hk => by
    simp only [List.mem_singleton] at hk
    subst hk
    rw [show l.getD j 0 = l[j] from by simp [List.getD, hj]]; exact List.getElem_mem hj) (by simp)
  exact (drain_run g 1 c [l.getD j 0] w1 G.fresh (E.keep G (.inr (Nat.zero_le _))) R D b1 b2 (C.G.zrng C.rng)).mono fun e w' hh => hh.law G fun o' w' E' => ⟨S', E', C'⟩
theorem rw_idle {N : Nat} {lim : Int} (w0 w1 : World) (G : Fr 0 0 o o w0 w1) (A : RwAt o w0 p N lim 0) :
    Calls Tryz.prog 83 #[.pointer (some ⟨p, 0, none⟩), .slice none 0 0] w1 (DrnPost o w0 [] [] fun o' w' => RwAt o' w' p N lim 0) := by
  obtain ⟨S, E, M, al⟩ := A
  have hz : ∀ k, ¬ S.Z k = true := fun k hk => by
    have := ((M.G.zero k).1 hk).1
    cases this
  exact (drain_run none 0 0 [] w1 G.fresh (E.keep G (.inr (Nat.zero_le _))) (rd_nil _ _) (DrR.idle fun k hk => absurd hk (hz k)) (fun k hk => by rw [M.pend] at hk; cases hk) (by rw [M.pend]; simp) (fun k hk => absurd hk (hz k))).mono fun e w' hh => hh.law G fun o' w' E' => ⟨S, E', M, al⟩
theorem ch_all (w0 w1 : World) (G : Fr 0 0 o o w0 w1) (A : ChAt o w0 p l) :
    Calls Tryz.prog 74 #[.pointer (some ⟨p, 0, none⟩)] w1 fun e w' => ∃ A cap, e = .returned (.slice A l.length cap) ∧ Fr 0 0 o o w0 w' := by
  obtain ⟨S, E, C⟩ := A
  refine (rall w1 (by omega) G.fresh (E.keep G (.inr (Nat.zero_le _)))).mono fun e w' hh => ?_
  obtain ⟨A, cap, hs, h1, h2, h3, _, _⟩ := hh
  exact ⟨A, cap, by rw [h1, C.G.all h2], G.trans h3⟩
end
end Go.Proofs.YtlpklloagaccoaaGreat
namespace Go.Proofs.YtlpklloagaccoaaGreat
open Go.RowKit
set_option linter.unusedVariables false

/-! ### several that refer to one -/
def sL (n : Nat) : List Int := (List.range n).map fun j => hI 1 (j + 1)
theorem sL_len (n : Nat) : (sL n).length = n := by unfold sL; rw [List.length_map, List.length_range]
theorem sL_succ (n : Nat) : sL (n + 1) = sL n ++ [hI 1 (n + 1)] := by unfold sL; rw [List.range_succ, List.map_append]; rfl
theorem sL_getD {n i : Nat} (h : i < n) : (sL n).getD i 0 = hI 1 (i + 1) := by unfold sL; simp [List.getD, h]
theorem hL_cons (n : Nat) : hL 1 (n + 1) = hI 1 0 :: sL n := by
  unfold hL sL
  rw [List.range_succ_eq_map, List.map_cons, List.map_map]
  rfl
theorem mem_sL {n : Nat} {k : Int} : k ∈ sL n ↔ ∃ j, j < n ∧ k = hI 1 (j + 1) := by
  unfold sL
  rw [List.mem_map]
  constructor
  · rintro ⟨j, h1, h2⟩; exact ⟨j, List.mem_range.1 h1, h2.symm⟩
  · rintro ⟨j, h1, h2⟩; exact ⟨j, List.mem_range.2 h1, h2.symm⟩
def shR (i : Nat) : Int → Int → Prop := fun y k => ∃ j, j < i ∧ y = hI 1 (j + 1) ∧ k = hI 1 0
def ShF (i : Nat) : Int → Nat → Prop := fun k _ => ∀ j, j < i → k ≠ hI 1 (j + 1)
def ShAt (o : Own) (w : World) (p i : Nat) : Prop := RgAt o w p 20 1 (i + 1) (hL 1 (i + 1)) 1000 i (fun _ => 1) (ShF i) (shR i) (fun _ => false) []
def ShMid (o : Own) (w : World) (p i : Nat) : Prop := RgAt o w p 20 1 (i + 2) (hL 1 (i + 2)) 1000 i (fun _ => 1) (ShF i) (shR i) (fun _ => false) []
theorem ShAt.keep {lo hi : Nat} {o o' : Own} {w w' : World} {p i : Nat} (h : ShAt o w p i) (k : Fr lo hi o o' w w') (hr : 30 ≤ lo ∨ hi ≤ 1) : ShAt o' w' p i := RgAt.keep h k hr
theorem ShMid.keep {lo hi : Nat} {o o' : Own} {w w' : World} {p i : Nat} (h : ShMid o w p i) (k : Fr lo hi o o' w w') (hr : 30 ≤ lo ∨ hi ≤ 1) : ShMid o' w' p i := RgAt.keep h k hr
theorem RgS.shr {S : EngS} {n : Nat} {lim : Int} {T : Nat} {F : Int → Nat → Prop} (h : RgS S (hL 1 (n + 1)) lim T (fun _ => 1) F (shR n) (fun _ => false) []) (hn : n ≤ 60) : Shr S (hI 1 0) (sL n) := by
  have hc := hL_cons n
  refine ⟨by rw [← hc]; exact h.G, List.eq_nil_iff_forall_not_mem.2 fun k hk => ?_, fun a ha => ?_, fun k => by rw [h.wat], h.pend, fun k hk => ?_, by rw [sL_len]; exact hn⟩
  · obtain ⟨j, _, h1, _⟩ := (h.refs _ _).1 hk
    have := hI_inj (by omega) h1
    omega
  · obtain ⟨j, h1, rfl⟩ := mem_sL.1 ha
    exact one_ref (h.refs_le (mem_hL.2 ⟨j + 1, by omega, rfl⟩)) ((h.refs _ _).2 ⟨j, h1, rfl, rfl⟩)
  · rw [← hc] at hk
    obtain ⟨j, h1, rfl⟩ := mem_hL.1 hk
    exact hI_rng (by omega) (by omega)
section
variable {o : Own} {p i : Nat}
theorem sh_first (w0 w1 : World) (G : Fr 0 0 o o w0 w1) (E : EngRep o w0 1 p (newEng 20 1000)) :
    Calls Tryz.prog 66 #[.pointer (some ⟨p, 0, none⟩), .int .i64 5, .int .i64 1, .int .i64 0] w1 fun e w' => ∃ o', e = .returned (.tuple #[.int .i64 (hI 1 0), .int .i64 0]) ∧ Fr 1 30 o o' w0 w' ∧ ShAt o' w' p 0 := by
  refine (rg_make 5 1 5 1 rfl rfl w0 w1 G (rg_first E (c := 1) (by omega) (fun _ => 1)) (by omega) (by omega) (by omega) (by decide) (by decide) rfl).mono fun e w' hh => ?_
  obtain ⟨o', h1, h2, h3⟩ := hh
  exact ⟨o', h1, h2, RgAt.congr h3 (Nat.le_refl _) (fun _ _ _ _ => trivial) fun y k => ⟨fun h => h.elim, fun ⟨j, h, _⟩ => absurd h (by omega)⟩⟩
theorem sh_make (w0 w1 : World) (G : Fr 0 0 o o w0 w1) (A : ShAt o w0 p i) (hi : i < 20) :
    Calls Tryz.prog 66 #[.pointer (some ⟨p, 0, none⟩), .int .i64 5, .int .i64 1, .int .i64 0] w1 fun e w' => ∃ o', e = .returned (.tuple #[.int .i64 (hI 1 (i + 1)), .int .i64 0]) ∧ Fr 1 30 o o' w0 w' ∧ ShMid o' w' p i := by
  refine (rg_make 5 1 5 1 rfl rfl w0 w1 G A (by omega) (by omega) (by omega) (by decide) (by show 2 + (i + 1) / 16 ≤ 20; omega) rfl).mono fun e w' hh => ?_
  obtain ⟨o', h1, h2, h3⟩ := hh
  refine ⟨o', h1, h2, ?_⟩
  rw [← hL_succ] at h3
  exact h3
theorem sh_set (w0 w1 : World) (G : Fr 0 0 o o w0 w1) (A : ShMid o w0 p i) (hi : i < 20) :
    Calls Tryz.prog 68 #[.pointer (some ⟨p, 0, none⟩), .int .i64 (hI 1 (i + 1)), .int .i64 0, .agg #[.int .i64 3, .int .i64 (hI 1 0)]] w1 fun e w' => ∃ o', e = .returned (.int .i64 0) ∧ Fr 1 30 o o' w0 w' ∧ ShAt o' w' p (i + 1) := by
  have hr := hI_rng (c := 1) (by omega) (k := 0) (by omega)
  refine (rg_set 0 0 rfl w0 w1 G A (mem_hL.2 ⟨i + 1, by omega, rfl⟩) (by omega) (fun j hj e => by have := hI_inj (by omega) e; omega) (mem_hL.2 ⟨0, by omega, rfl⟩) (by omega) (by unfold in64; unfold KB at hr; omega)).mono fun e w' hh => ?_
  obtain ⟨o', h1, h2, h3⟩ := hh
  refine ⟨o', h1, h2, RgAt.congr h3 (by omega) (fun k q _ hk => ⟨fun j hj => hk j (by omega), fun e => hk i (by omega) e.1⟩) fun y k => ?_⟩
  constructor
  · rintro (⟨j, h4, h5, h6⟩ | ⟨h5, h6⟩)
    · exact ⟨j, by omega, h5, h6⟩
    · exact ⟨i, by omega, h5, h6⟩
  · rintro ⟨j, h4, h5, h6⟩
    by_cases e : j = i
    · subst e; exact .inr ⟨h5, h6⟩
    · exact .inl ⟨j, by omega, h5, h6⟩
end
def DsAt (o : Own) (w : World) (p : Nat) (x : Int) (l : List Int) : Prop := ∃ S, EngRep o w 1 p S ∧ Shr S x l
theorem DsAt.keep {lo hi : Nat} {o o' : Own} {w w' : World} {p : Nat} {x : Int} {l : List Int} (h : DsAt o w p x l) (k : Fr lo hi o o' w w') (hr : 30 ≤ lo ∨ hi ≤ 1) : DsAt o' w' p x l := let ⟨S, E, C⟩ := h; ⟨S, E.keep k (by omega), C⟩
theorem ShAt.ds {o : Own} {w : World} {p n : Nat} (A : ShAt o w p n) (hn : n ≤ 60) : DsAt o w p (hI 1 0) (sL n) := let ⟨S, E, M, _⟩ := A; ⟨S, E, M.shr hn⟩
/-- No object is left. -/
def NoAt (o : Own) (w : World) (p : Nat) : Prop := ∃ S, EngRep o w 1 p S ∧ Gd S []
section
variable {o : Own} {p : Nat} {x a : Int} {l : List Int}
theorem Shr.bounds {S : EngS} (C : Shr S x l) {rs : List Int} (hr : ∀ k ∈ rs, k ∈ l) (hrl : rs.length ≤ 60) : (∀ k ∈ rs ++ S.pend, 0 ≤ k ∧ k < KB) ∧ rs.length + S.pend.length ≤ 1000000 := by
  rw [C.pend, List.append_nil]
  exact ⟨fun k hk => C.rng k (by simp [hr k hk]), by simp; omega⟩
theorem sh_idle (w0 w1 : World) (G : Fr 0 0 o o w0 w1) (A : DsAt o w0 p x l) (hl : l ≠ []) {g : Option Addr} {m c : Nat} (R : RdS w1 w1.heap.size .i64 g m l) :
    Calls Tryz.prog 83 #[.pointer (some ⟨p, 0, none⟩), .slice g m c] w1 (DrnPost o w0 [] [] fun o' w' => DsAt o' w' p x l) := by
  obtain ⟨S, E, C⟩ := A
  obtain ⟨b1, b2⟩ := C.bounds (rs := l) (fun k hk => hk) C.len
  exact (drain_run g m c l w1 G.fresh (E.keep G (.inr (Nat.zero_le _))) R (C.idle hl) b1 b2 (C.G.zrng C.rng)).mono fun e w' hh => hh.law G fun o' w' E' => ⟨S, E', C⟩
theorem sh_next (w0 w1 : World) (G : Fr 0 0 o o w0 w1) (A : DsAt o w0 p x (a :: l)) (hl : l ≠ []) {g : Option Addr} {m c : Nat} (R : RdS w1 w1.heap.size .i64 g m l) :
    Calls Tryz.prog 83 #[.pointer (some ⟨p, 0, none⟩), .slice g m c] w1 (DrnPost o w0 [a] [] fun o' w' => DsAt o' w' p x l) := by
  obtain ⟨S, E, C⟩ := A
  have hl60 := C.len
  simp only [List.length_cons] at hl60
  obtain ⟨b1, b2⟩ := C.bounds (rs := l) (fun k hk => by simp [hk]) (by omega)
  exact (drain_run g m c l w1 G.fresh (E.keep G (.inr (Nat.zero_le _))) R (C.next hl) b1 b2 (C.G.zrng C.rng)).mono fun e w' hh => hh.law G fun o' w' E' => ⟨_, E', C.free⟩
theorem sh_last (w0 w1 : World) (G : Fr 0 0 o o w0 w1) (A : DsAt o w0 p x [a]) :
    Calls Tryz.prog 83 #[.pointer (some ⟨p, 0, none⟩), .slice none 0 0] w1 (DrnPost o w0 [a, x] [] fun o' w' => NoAt o' w' p) := by
  obtain ⟨S, E, C⟩ := A
  obtain ⟨S', D, G'⟩ := C.last
  obtain ⟨b1, b2⟩ := C.bounds (rs := []) (by simp) (by simp)
  exact (drain_run none 0 0 [] w1 G.fresh (E.keep G (.inr (Nat.zero_le _))) (rd_nil _ _) D b1 b2 (C.G.zrng C.rng)).mono fun e w' hh => hh.law G fun o' w' E' => ⟨_, E', G'⟩
theorem sh_kind (w0 w1 : World) (G : Fr 0 0 o o w0 w1) (A : DsAt o w0 p x l) :
    Calls Tryz.prog 33 #[.pointer (some ⟨p, 0, none⟩), .int .i64 x] w1 fun e w' => ∃ k : Int, e = .returned (.int .i64 k) ∧ 1 ≤ k ∧ Fr 0 0 o o w0 w' := by
  obtain ⟨S, E, C⟩ := A
  obtain ⟨y, hy⟩ := C.ob (k := x) (by simp)
  have h1 : 1 ≤ y.kind := by
    obtain ⟨ps, pt, pz, pp, bw, bk, v, K, E, A⟩ := E
    obtain ⟨z, hz, e1, _⟩ := A.of_some hy
    have := (E.sp.obok hz).1.1
    rw [e1]; exact this
  refine (rkind x w1 G.fresh (E.keep G (.inr (Nat.zero_le _)))).mono fun e w' hh => ⟨_, hh.1, ?_, G.below hh.2⟩
  rw [kindA_of hy]; omega
theorem no_all (w0 w1 : World) (G : Fr 0 0 o o w0 w1) (A : NoAt o w0 p) :
    Calls Tryz.prog 74 #[.pointer (some ⟨p, 0, none⟩)] w1 fun e w' => ∃ A cap, e = .returned (.slice A 0 cap) ∧ Fr 0 0 o o w0 w' := by
  obtain ⟨S, E, C⟩ := A
  refine (rall w1 (by omega) G.fresh (E.keep G (.inr (Nat.zero_le _)))).mono fun e w' hh => ?_
  obtain ⟨A, cap, hs, h1, h2, h3, _, _⟩ := hh
  exact ⟨A, cap, by rw [h1, C.all h2]; rfl, G.trans h3⟩
/-! ### the first one is watched -/
def WtAt (o : Own) (w : World) (p : Nat) (a : Int) (l : List Int) : Prop := ∃ S, EngRep o w 1 p (watA S a true) ∧ Chn S (a :: l)
def TdAt (o : Own) (w : World) (p : Nat) (a : Int) (l : List Int) : Prop := ∃ S, EngRep o w 1 p S ∧ ChnT S l a
theorem TdAt.keep {lo hi : Nat} {o o' : Own} {w w' : World} {p : Nat} {x : Int} {l : List Int} (h : TdAt o w p x l) (k : Fr lo hi o o' w w') (hr : 30 ≤ lo ∨ hi ≤ 1) : TdAt o' w' p x l := let ⟨S, E, C⟩ := h; ⟨S, E.keep k (by omega), C⟩
theorem wt_watch (w0 w1 : World) (G : Fr 0 0 o o w0 w1) (A : ChAt o w0 p (a :: l)) :
    Calls Tryz.prog 76 #[.pointer (some ⟨p, 0, none⟩), .int .i64 a] w1 fun e w' => ∃ o', e = .returned (.int .i64 0) ∧ Fr 1 30 o o' w0 w' ∧ WtAt o' w' p a l := by
  obtain ⟨S, E, C⟩ := A
  obtain ⟨y, hy⟩ := C.ob (k := a) (by simp)
  refine (rwatch a y w1 G.fresh (E.keep G (.inr (Nat.zero_le _))) hy).mono fun e w' hh => ?_
  obtain ⟨h1, o', F', E'⟩ := hh
  exact ⟨o', h1, (G.none 1 30).trans F', S, E', C⟩
theorem wt_run (w0 w1 : World) (G : Fr 0 0 o o w0 w1) (A : WtAt o w0 p a l) :
    Calls Tryz.prog 83 #[.pointer (some ⟨p, 0, none⟩), .slice none 0 0] w1 (DrnPost o w0 [] [a] fun o' w' => TdAt o' w' p a l) := by
  obtain ⟨S, E, C⟩ := A
  obtain ⟨S', D, C'⟩ := C.watch
  have hp : (watA S a true).pend = [] := C.pend
  exact (drain_run none 0 0 [] w1 G.fresh (E.keep G (.inr (Nat.zero_le _))) (rd_nil _ _) D (fun k hk => by rw [hp] at hk; cases hk) (by rw [hp]; simp) (C.G.zrng C.rng)).mono fun e w' hh => hh.law G fun o' w' E' => ⟨S', E', C'⟩
theorem td_run (w0 w1 : World) (G : Fr 0 0 o o w0 w1) (A : TdAt o w0 p a l) :
    Calls Tryz.prog 83 #[.pointer (some ⟨p, 0, none⟩), .slice none 0 0] w1 (DrnPost o w0 [] [] fun o' w' => TdAt o' w' p a l) := by
  obtain ⟨S, E, C⟩ := A
  exact (drain_run none 0 0 [] w1 G.fresh (E.keep G (.inr (Nat.zero_le _))) (rd_nil _ _) C.idle (fun k hk => by
    rw [C.pend] at hk
    simp only [List.nil_append, List.mem_singleton] at hk
    subst hk
    exact C.rng _ (by simp)) (by rw [C.pend]; simp) (C.G.zrng C.rng)).mono fun e w' hh => hh.law G fun o' w' E' => ⟨S, E', C⟩
theorem td_all (w0 w1 : World) (G : Fr 0 0 o o w0 w1) (A : TdAt o w0 p a l) :
    Calls Tryz.prog 74 #[.pointer (some ⟨p, 0, none⟩)] w1 fun e w' => ∃ A cap, e = .returned (.slice A (l.length + 1) cap) ∧ Fr 0 0 o o w0 w' := by
  obtain ⟨S, E, C⟩ := A
  refine (rall w1 (by omega) G.fresh (E.keep G (.inr (Nat.zero_le _)))).mono fun e w' hh => ?_
  obtain ⟨A, cap, hs, h1, h2, h3, _, _⟩ := hh
  exact ⟨A, cap, by rw [h1, C.G.all h2]; rfl, G.trans h3⟩
theorem td_take (w0 w1 : World) (G : Fr 0 0 o o w0 w1) (A : TdAt o w0 p a l) :
    Calls Tryz.prog 80 #[.pointer (some ⟨p, 0, none⟩)] w1 fun e w' => ∃ o', e = .returned (.tuple #[.int .i64 a, .bool true]) ∧ Fr 1 30 o o' w0 w' ∧ ChAt o' w' p (a :: l) := by
  obtain ⟨S, E, C⟩ := A
  refine (rtake w1 G.fresh (E.keep G (.inr (Nat.zero_le _))) C.pend (by simp)).mono fun e w' hh => ?_
  obtain ⟨h1, o', F', E'⟩ := hh
  exact ⟨o', h1, (G.none 1 30).trans F', _, E', C.take⟩
theorem ch_idle (w0 w1 : World) (G : Fr 0 0 o o w0 w1) (A : ChAt o w0 p (a :: l)) {g : Option Addr} {c : Nat} (R : RdS w1 w1.heap.size .i64 g 1 [a]) :
    Calls Tryz.prog 83 #[.pointer (some ⟨p, 0, none⟩), .slice g 1 c] w1 (DrnPost o w0 [] [] fun o' w' => ChAt o' w' p (a :: l)) := by
  obtain ⟨S, E, C⟩ := A
  obtain ⟨b1, b2⟩ := C.bounds (rs := [a]) (by simp) (by simp)
  exact (drain_run g 1 c [a] w1 G.fresh (E.keep G (.inr (Nat.zero_le _))) R C.idle b1 b2 (C.G.zrng C.rng)).mono fun e w' hh => hh.law G fun o' w' E' => ⟨S, E', C⟩
end
end Go.Proofs.YtlpklloagaccoaaGreat
namespace Go.Proofs.YtlpklloagaccoaaGreat
open Go.RowKit
set_option linter.unusedVariables false

set_option maxRecDepth 100000 in
set_option maxHeartbeats 4000000 in
theorem alive13 (w : World) : Calls Tryz.prog 82 #[] w fun e w' => e = .returned (.bool true) ∧ Below w.heap.size w w' := by
  have HN := Lib.hid (fun (o : Own) (w1 : World) (ho : Owned o w1) => show Calls Tryz.prog 27 #[.int .i64 4, .int .i64 0, .int .i64 10] w1 (EngNew o w1 1 4 10) from eng_new 1 4 10 w1 ho (by omega) (by omega) (by omega) (by omega))
  have HF0 := Lib.hid (LF.start w)
  go_enter Tryz.func82, Tryz.ntmps82
  go_wp2_with fail
  go_at_call 27
  refine (HN.out _ _ HF0.out.fresh).mono ?_
  rintro e w2 ⟨p, o2, rfl, F2, E2⟩
  have HF2 := Lib.hid (HF0.out.fr F2 (by omega))
  have HA2 := Lib.hid (rw_first (N := 4) (lim := 10) E2)
  clear F2 E2
  go_wp2_with fail
  go_at_call 83
  refine (rw_idle w2 _ (by repeat (first | exact Fr.refl HF2.out.fresh | refine Fr.drew ?_ | refine Fr.alloc ?_ _)) HA2.out).mono ?_
  rintro e w3 ⟨A1, c1, A2, c2, o3, rfl, F3, _, _, H3⟩
  have HF3 := Lib.hid (HF2.out.fr F3 (by omega))
  have HA3 := Lib.hid H3
  clear F3 H3
  go_wp2_with fail
  go_at_call 66
  refine (rw_make w3 _ (by repeat (first | exact Fr.refl HF3.out.fresh | refine Fr.drew ?_ | refine Fr.alloc ?_ _)) HA3.out (by omega)).mono ?_
  rintro e w4 ⟨o4, rfl, F4, A4⟩
  have HF4 := Lib.hid (HF3.out.fr F4 (by omega))
  have HA4 := Lib.hid (A4.skip.ch (by omega))
  clear F4 A4
  have h64 : hI 1 0 = 64 := by decide
  rw [h64]
  go_wp2_with fail
  go_at_call 83
  refine (ch_run w4 _ (by repeat (first | exact Fr.refl HF4.out.fresh | refine Fr.drew ?_ | refine Fr.alloc ?_ _)) HA4.out).mono ?_
  rintro e w5 ⟨A1, c1, A2, c2, o5, rfl, F5, R5, _, _⟩
  have HF5 := Lib.hid (HF4.out.fr F5 (by omega))
  rw [hL_len] at R5 ⊢
  obtain ⟨b5, f5, hA5, hb5, hc5⟩ := R5.at_ (i := 0) (by omega)
  rw [hL_getD (by omega), h64, Nat.add_zero] at hc5
  subst hA5
  clear F5 R5
  go_wp2_with fail
  go_ret
  exact ⟨rfl, HF5.out.tob⟩
end Go.Proofs.YtlpklloagaccoaaGreat
