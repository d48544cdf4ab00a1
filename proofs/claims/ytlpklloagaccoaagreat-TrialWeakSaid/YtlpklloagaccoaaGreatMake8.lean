/- A weak object is made (count.Make). Conditions: nothing was freed; there is room. -/
import Derived.Test.YtlpklloagaccoaaGreatRoom
namespace Go.Proofs.YtlpklloagaccoaaGreat
open Go.RowKit
set_option linter.unusedVariables false

set_option maxRecDepth 100000 in
set_option maxHeartbeats 2000000 in
theorem xmake_weak {o : Own} {r p : Nat} {S : EngS} {ps pt pz pp bw bk : Nat} {v : Value} (cells raw : Nat) (L' : Al) (a : Nat) (w : World) (ho : Owned o w) (E : EngX o w r p S ps pt pz pp bw bk v) (hok : S.L.ok = true) (hc : cells ≤ 4000) (hr4 : raw ≤ 4000) (hT : tookL S.L (wordsN cells raw) = some (L', a)) :
    Calls Tryz.prog 66 #[.pointer (some ⟨p, 0, none⟩), .int .i64 8, .int .i64 (cells : Nat), .int .i64 (raw : Nat)] w (EMakePost o w r p S ps pt pz pp bw bk v 8 cells raw) := by
  obtain ⟨K, E, A⟩ := E
  have HM := Lib.hid (show Calls Tryz.prog 49 #[.pointer (some ⟨ps, 0, none⟩), .int .i64 8, .int .i64 (cells : Nat), .int .i64 (raw : Nat)] w fun e w' => e = .returned (.tuple #[.int .i64 (a : Nat), .int .i64 0]) ∧ (K.ob (a : Int) = none ∧ 64 ≤ a ∧ a + wordsN cells raw ≤ S.L.n * 64 ∧ L'.ok = true ∧ L'.n = S.L.n) ∧ EngAt o w r p { K with L := L', ob := updI K.ob (a : Int) (some (newOb 8 cells raw)) } ps pt pz pp bw bk v w' from
    (smake_any 8 cells raw w ho E.sp (by rw [← A.L]; exact hok) (by omega) hc hr4).mono fun e w' h => by
      obtain ⟨h1, h2, h3, h4, h5, h6, o', F, S'⟩ := h.1 L' a (by rw [← A.L]; exact hT)
      exact ⟨h1, ⟨h2, h3, by rw [A.L]; exact h4, h5, by rw [A.L]; exact h6⟩, o', F.mono (by omega) (by omega), E.space F S'⟩)
  have c0 := E.c0
  have HT := Lib.hid hT
  have HA := Lib.hid A
  have a0 : (0 : Int) ≤ (a : Int) := by omega
  have hn4 := Lib.hid (show S.L.n ≤ 4096 by rw [A.L]; exact E.sp.nle)
  have hwp := Lib.hid (wordsN_pos cells raw)
  clear E A hT hc hr4
  go_enter Tryz.func66, Tryz.ntmps66
  go_wp2_with fail
  go_at_call 49
  refine HM.out.mono ?_
  rintro e w1 ⟨rfl, hfacts, o1, F1, E1⟩
  have HFA := Lib.hid hfacts
  have HK1 := Lib.hid (show (a : Int) < KB by
    obtain ⟨f1, f2, f3, _⟩ := hfacts
    have g1 := hn4.out
    have g2 := hwp.out
    simp only [KB]; omega)
  have c5 := E1.c5
  have HF0 := Lib.hid F1
  have HE0 := Lib.hid E1
  have k1 := HK1.out
  clear hfacts F1 E1
  go_wp2_with (at_mapUpdate; refine wpList_mapUpdate_is _ rfl _ _ _ 100 rfl 3 4 Tryz.underlying100 Tryz.underlying3 bk _ (by exact HE0.out.weak.2) rfl (a : Int) rfl a0 k1 _ rfl ?_; intro w1b hm2 ht2; have hd := HE0.out.weakT HF0.out.fresh ht2 (hm2.congr fun k => setMap_upd K.weak (a : Int) k); have HF1 := Lib.hid (HF0.out.trans hd.1); have HE1 := Lib.hid hd.2; have c2 := hd.2.c2; clear hm2 ht2 hd c5)
  go_at_call 116
  refine (HE1.out.pushZ HF1.out.fresh (a : Int) a0 HK1.out).mono ?_
  rintro e w2 ⟨rfl, o2, F2, E2⟩
  have HF2 := Lib.hid (HF1.out.trans F2)
  have HE2 := Lib.hid E2
  clear F2 E2
  go_wp2_with fail
  go_at_call 117
  have HMK := Lib.hid (show Calls Tryz.prog 117 #[.pointer (some ⟨p, 0, none⟩), .int .i64 (a : Nat), .int .i64 0] w2 _ from mark_any (a : Int) 0 (newOb 8 cells raw) 0 w2 HF2.out.fresh HE2.out (if_pos rfl) (by omega) rfl)
  refine HMK.out.mono ?_
  rintro e w3 ⟨rfl, o3, F3, E3⟩
  have HF3 := Lib.hid (HF2.out.trans F3)
  have HE3 := Lib.hid E3
  clear F3 E3
  go_wp2_with fail
  go_ret2
  refine ⟨fun L2 a2 e => ?_, fun e => (by rw [HT.out] at e; cases e)⟩
  rw [HT.out] at e
  cases e
  obtain ⟨f1, f2, f3, f4, f5⟩ := HFA.out
  refine ⟨rfl, ?_, f2, f3, f4, f5, o3, HF3.out, _, HE3.out, ?_⟩
  · have := HA.out.ob (a : Int)
    rw [f1] at this; exact this
  · have T := HA.out.made (kind := 8) (cells := cells) (raw := raw) f1 L' (updS K.weak (a : Int) true)
    unfold makeA
    rw [if_pos rfl, HA.out.weak]
    exact T
theorem rmake8 {o : Own} {r p : Nat} {S : EngS} (cells raw : Nat) (ci ri : Int) (e2 : ci = cells) (e3 : ri = raw) (L' : Al) (a : Nat) (w : World) (ho : Owned o w) (E : EngRep o w r p S) (hok : S.L.ok = true) (hc : cells ≤ 4000) (hr4 : raw ≤ 4000) (hT : tookL S.L (wordsN cells raw) = some (L', a)) :
    Calls Tryz.prog 66 #[.pointer (some ⟨p, 0, none⟩), .int .i64 8, .int .i64 ci, .int .i64 ri] w fun e w' => EngDo o w r p (makeA S L' a 8 cells raw) (.tuple #[.int .i64 (a : Nat), .int .i64 0]) e w' ∧ S.ob (a : Int) = none ∧ 64 ≤ a ∧ a < 262144 ∧ L'.ok = true ∧ L'.n = S.L.n := by
  subst e2 e3
  obtain ⟨ps, pt, pz, pp, bw, bk, v, E⟩ := E
  have hn4 : S.L.n ≤ 4096 := by
    obtain ⟨K, E1, A1⟩ := E
    rw [A1.L]; exact E1.sp.nle
  have hwp := wordsN_pos cells raw
  refine (xmake_weak cells raw L' a w ho E hok hc hr4 hT).mono ?_
  intro e w' hh
  obtain ⟨h1, h2, h3, h4, h5, h6, o', F, E'⟩ := hh.1 L' a hT
  exact ⟨⟨h1, o', F, E'.rep⟩, h2, h3, by omega, h5, h6⟩
end Go.Proofs.YtlpklloagaccoaaGreat
