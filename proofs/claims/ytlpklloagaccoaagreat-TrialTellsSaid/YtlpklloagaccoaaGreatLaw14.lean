/- The laws of trials: what they have in common (calls on rings; alive). Conditions: room. -/
import Derived.Test.YtlpklloagaccoaaGreatRgT
import Derived.Test.YtlpklloagaccoaaGreatLaw12
import Derived.Test.YtlpklloagaccoaaGreatLTells
import Derived.BigQuiet
import Derived.Outline
namespace Go.Proofs.YtlpklloagaccoaaGreat
open Go.RowKit
set_option linter.unusedVariables false

/-- Behind a trial, or a sweep, as laws read it. -/
def TrnPost (o : Own) (w0 : World) (f t : List Int) (Q : Own → World → Prop) (e : Ending) (w' : World) : Prop :=
  ∃ A1 c1 A2 c2 o', e = .returned (.tuple #[.slice A1 f.length c1, .slice A2 t.length c2]) ∧ Fr 1 70 o o' w0 w' ∧ RdS w' w'.heap.size .i64 A1 f.length f ∧ RdS w' w'.heap.size .i64 A2 t.length t ∧ Q o' w'
theorem TrPost.law {o : Own} {w0 w1 : World} {p : Nat} {S' : EngS} {f t : List Int} {Q : Own → World → Prop} {e : Ending} {w' : World} (G : Fr 0 0 o o w0 w1) (h : TrPost o w1 p S' f t e w') (hQ : ∀ o' w', EngRep o' w' 1 p S' → Q o' w') : TrnPost o w0 f t Q e w' := by
  obtain ⟨vf, vt, o', h1, h2, h3, h4, h5⟩ := h
  obtain ⟨A1, c1, e1, r1⟩ := h4.rd
  obtain ⟨A2, c2, e2, r2⟩ := h5.rd
  subst e1 e2
  exact ⟨A1, c1, A2, c2, o', h1, (G.none 1 70).trans (h2.mono (by omega) (by omega)), r1, r2, hQ _ _ h3⟩
theorem FuPost.law {o : Own} {w0 w1 : World} {p : Nat} {S' : EngS} {f t : List Int} {Q : Own → World → Prop} {e : Ending} {w' : World} (G : Fr 0 0 o o w0 w1) (h : FuPost o w1 p S' f t e w') (hQ : ∀ o' w', EngRep o' w' 1 p S' → Q o' w') : TrnPost o w0 f t Q e w' := by
  obtain ⟨vf, vt, o', h1, h2, h3, h4, h5⟩ := h
  obtain ⟨A1, c1, e1, r1⟩ := h4.rd
  obtain ⟨A2, c2, e2, r2⟩ := h5.rd
  subst e1 e2
  exact ⟨A1, c1, A2, c2, o', h1, (G.none 1 70).trans h2, r1, r2, hQ _ _ h3⟩
def EmAt (o : Own) (w : World) (p : Nat) : Prop := ∃ S, EngRep o w 1 p S ∧ Emp S
theorem EmAt.keep {lo hi : Nat} {o o' : Own} {w w' : World} {p : Nat} (h : EmAt o w p) (k : Fr lo hi o o' w w') (hr : 30 ≤ lo ∨ hi ≤ 1) : EmAt o' w' p := let ⟨S, E, C⟩ := h; ⟨S, E.keep k (by omega), C⟩
theorem em_all {o : Own} {p : Nat} (w0 w1 : World) (G : Fr 0 0 o o w0 w1) (A : EmAt o w0 p) :
    Calls Tryz.prog 74 #[.pointer (some ⟨p, 0, none⟩)] w1 fun e w' => ∃ A cap, e = .returned (.slice A 0 cap) ∧ Fr 0 0 o o w0 w' := by
  obtain ⟨S, E, C⟩ := A
  refine (rall w1 (by omega) G.fresh (E.keep G (.inr (Nat.zero_le _)))).mono fun e w' hh => ?_
  obtain ⟨A, cap, hs, h1, h2, h3, _, _⟩ := hh
  rw [C.none h2] at h1
  exact ⟨A, cap, h1, G.trans h3⟩
theorem em_full {o : Own} {p : Nat} (w0 w1 : World) (G : Fr 0 0 o o w0 w1) (A : EmAt o w0 p) :
    Calls Tryz.prog 86 #[.pointer (some ⟨p, 0, none⟩), .slice none 0 0] w1 (TrnPost o w0 [] [] fun o' w' => EmAt o' w' p) := by
  obtain ⟨S, E, C⟩ := A
  exact (full_run none 0 0 [] w1 G.fresh (E.keep G (.inr (Nat.zero_le _))) (rd_nil _ _) (fun b off h => (by cases h)) C.full (by simp)).mono fun e w' hh => hh.law G fun o' w' E' => ⟨_, E', C⟩
section
variable {o : Own} {p N c n : Nat} {lim : Int} {T : Nat} {K : Int → Nat} {F : Int → Nat → Prop} {R : Int → Int → Prop}
theorem hL_rng {c n : Nat} (hc : c < 5) (hn : n ≤ 100) : ∀ k ∈ hL c n, 0 ≤ k ∧ k < KB := fun k hk => by
  obtain ⟨j, hj, rfl⟩ := mem_hL.1 hk
  exact hI_rng hc (by omega)
theorem rt_first (w0 w1 : World) (G : Fr 0 0 o o w0 w1) (A : RgAt o w0 p N c n [] lim T K F R (fun _ => false) []) :
    Calls Tryz.prog 85 #[.pointer (some ⟨p, 0, none⟩), .slice none 0 0] w1 (TrnPost o w0 [] [] fun o' w' => RgAt o' w' p N c n [] lim T K F R (fun _ => false) []) := by
  obtain ⟨S, E, M, al⟩ := A
  have hE : Emp S := ⟨fun k => by
    cases hx : S.ob k with
    | none => rfl
    | some x => exact absurd ((M.G.mem k).2 ⟨x, hx⟩) (by simp), M.G.liv, M.pend⟩
  exact (trial_run none 0 0 [] w1 G.fresh (E.keep G (.inr (Nat.zero_le _))) (rd_nil _ _) (fun b off h => (by cases h)) hE.tr hE.fit).mono fun e w' hh => hh.law G fun o' w' E' => ⟨S, E', M, al⟩
/-- Nobody holds the ring. -/
theorem rt_gone (w0 w1 : World) (G : Fr 0 0 o o w0 w1) (A : RgAt o w0 p N c n (hL c n) lim T K F R (fun _ => false) []) (hR : RingR c n R) (hc : c < 5) (hn : n ≤ 100) (hK : ∀ k, K k ≤ 100) :
    Calls Tryz.prog 85 #[.pointer (some ⟨p, 0, none⟩), .slice none 0 0] w1 (TrnPost o w0 (hL c n) [] fun o' w' => EmAt o' w' p) := by
  obtain ⟨S, E, M, al⟩ := A
  have X := M.fit (roots := []) (fun k hk => (by cases hk)) (fun k hk => (by cases hk)) (hL_rng hc hn) (by simp)
  have D := M.gone (hL_rise hc n) (by rw [hL_len]; exact hn) (fun k _ => hK k) hR.ref
  exact (trial_run none 0 0 [] w1 G.fresh (E.keep G (.inr (Nat.zero_le _))) (rd_nil _ _) (fun b off h => (by cases h)) D X).mono fun e w' hh => hh.law G fun o' w' E' => ⟨_, E', M.emp⟩
/-- One of it is held. -/
theorem rt_held (w0 w1 : World) (G : Fr 0 0 o o w0 w1) (A : RgAt o w0 p N c n (hL c n) lim T K F R (fun _ => false) []) (hR : RingR c n R) (hc : c < 5) (hn : n ≤ 100) (hK : ∀ k, K k ≤ 100) {a : Nat} (ha : a < n) {g : Option Addr} {cc : Nat} (Rd : RdS w1 w1.heap.size .i64 g 1 [hI c a]) (hg : ∀ b off, g = some ⟨b, off, none⟩ → o b < 1) :
    Calls Tryz.prog 85 #[.pointer (some ⟨p, 0, none⟩), .slice g 1 cc] w1 (TrnPost o w0 [] [] fun o' w' => RgAt o' w' p N c n (hL c n) lim T K F R (fun _ => false) []) := by
  obtain ⟨S, E, M, al⟩ := A
  have hm : hI c a ∈ hL c n := mem_hL.2 ⟨a, ha, rfl⟩
  have X := M.fit (roots := [hI c a]) (fun k hk => by simp only [List.mem_singleton] at hk; subst hk; exact hm) (fun k hk => (by cases hk)) (hL_rng hc hn) (by simp)
  have D := M.held (hL_rise hc n) (by rw [hL_len]; exact hn) (fun k _ => hK k) hR.ref [hI c a] (fun V h1 h2 => hR.all h2 ha (h1 _ hm (by simp)))
  exact (trial_run g 1 cc [hI c a] w1 G.fresh (E.keep G (.inr (Nat.zero_le _))) Rd (fun b off h => .inl (hg b off h)) D X).mono fun e w' hh => hh.law G fun o' w' E' => ⟨_, E', M, al⟩
theorem rt_sweep (w0 w1 : World) (G : Fr 0 0 o o w0 w1) (A : RgAt o w0 p N c n (hL c n) lim T K F R (fun _ => false) []) (hR : RingR c n R) (hc : c < 5) (hn : n ≤ 100) (hn1 : 1 ≤ n) (hK : ∀ k, K k ≤ 100) :
    Calls Tryz.prog 86 #[.pointer (some ⟨p, 0, none⟩), .slice none 0 0] w1 (TrnPost o w0 (hL c n) [] fun o' w' => EmAt o' w' p) := by
  obtain ⟨S, E, M, al⟩ := A
  have D := M.sweep (hL_rise hc n) (by rw [hL_len]; exact hn) (fun k _ => hK k) hR.ref (hL_rng hc hn) (by rw [hL_len]; omega)
  exact (full_run none 0 0 [] w1 G.fresh (E.keep G (.inr (Nat.zero_le _))) (rd_nil _ _) (fun b off h => (by cases h)) D (by rw [hL_len]; simp; omega)).mono fun e w' hh => hh.law G fun o' w' E' => ⟨_, E', M.emp⟩
end
set_option maxRecDepth 100000 in
set_option maxHeartbeats 4000000 in
theorem alive14 (w : World) : Calls Tryz.prog 84 #[] w fun e w' => e = .returned (.bool true) ∧ Below w.heap.size w w' := by
  have HN := Lib.hid (fun (o : Own) (w1 : World) (ho : Owned o w1) => show Calls Tryz.prog 27 #[.int .i64 4, .int .i64 0, .int .i64 10] w1 (EngNew o w1 1 4 10) from eng_new 1 4 10 w1 ho (by omega) (by omega) (by omega) (by omega))
  have HF0 := Lib.hid (LF.start w)
  go_enter Tryz.func84, Tryz.ntmps84
  go_wp2_with fail
  go_at_call 27
  refine (HN.out _ _ HF0.out.fresh).mono ?_
  rintro e w2 ⟨p, o2, rfl, F2, E2⟩
  have HF2 := Lib.hid (HF0.out.fr F2 (by omega))
  have HA2 := Lib.hid (rg_first (N := 4) (lim := 10) E2 (c := 1) (by omega) (fun _ => 1))
  clear F2 E2
  go_wp2_with fail
  go_at_call 85
  refine (rt_first w2 _ (by repeat (first | exact Fr.refl HF2.out.fresh | refine Fr.drew ?_ | refine Fr.alloc ?_ _)) HA2.out).mono ?_
  rintro e w3 ⟨A1, c1, A2, c2, o3, rfl, F3, _, _, H3⟩
  have HF3 := Lib.hid (HF2.out.fr F3 (by omega))
  have HA3 := Lib.hid H3
  clear F3 H3
  have h64 : hI 1 0 = 64 := by decide
  go_wp2_with fail
  go_at_call 66
  refine (rg_make 5 1 5 1 rfl rfl w3 _ (by repeat (first | exact Fr.refl HF3.out.fresh | refine Fr.drew ?_ | refine Fr.alloc ?_ _)) HA3.out (by omega) (by omega) (by omega) (by decide) (by decide) rfl).mono ?_
  rintro e w4 ⟨o4, rfl, F4, A4⟩
  have HF4 := Lib.hid (HF3.out.fr F4 (by omega))
  rw [h64] at A4 ⊢
  have HA4 := Lib.hid A4
  clear F4 A4
  go_wp2_with fail
  go_at_call 68
  refine (rg_set 0 0 rfl w4 _ (by repeat (first | exact Fr.refl HF4.out.fresh | refine Fr.drew ?_ | refine Fr.alloc ?_ _)) HA4.out (y := 64) (m := 64) (by simp) (by omega) trivial (by simp) (by omega) (by unfold in64; omega)).mono ?_
  rintro e w5 ⟨o5, rfl, F5, A5⟩
  have HF5 := Lib.hid (HF4.out.fr F5 (by omega))
  have hl1 : [] ++ [(64 : Int)] = hL 1 1 := by rw [← h64]; rfl
  rw [hl1] at A5
  have HA5 := Lib.hid A5
  clear F5 A5 hl1
  go_wp2_with fail
  go_at_call 85
  refine (rt_gone w5 _ (by repeat (first | exact Fr.refl HF5.out.fresh | refine Fr.drew ?_ | refine Fr.alloc ?_ _)) HA5.out (fun j hj => by
    obtain rfl : j = 0 := by omega
    exact .inr ⟨h64, h64⟩) (by omega) (by omega) (fun _ => by omega)).mono ?_
  rintro e w6 ⟨A1, c1, A2, c2, o6, rfl, F6, R6, _, _⟩
  have HF6 := Lib.hid (HF5.out.fr F6 (by omega))
  rw [hL_len] at R6 ⊢
  obtain ⟨b5, f5, hA5, hb5, hc5⟩ := R6.at_ (i := 0) (by omega)
  rw [hL_getD (by omega), h64, Nat.add_zero] at hc5
  subst hA5
  clear F6 R6
  go_wp2_with fail
  go_ret
  exact ⟨rfl, HF6.out.tob⟩
end Go.Proofs.YtlpklloagaccoaaGreat
