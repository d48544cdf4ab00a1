/- Objects are made, and counted (count.Make). Conditions: nothing was freed; parts of headers in range. Cells are written, and what they refer to is counted (count.Right, Set). Conditions: the engine is as one that was made; what is referred to is an object. -/
import Derived.Test.YtlpklloagaccoaaEngS
import Derived.Outline
namespace Go.Proofs.Ytlpklloagaccoaa
open Go.RowKit
set_option linter.unusedVariables false

/-- Behind Make, where there is room. -/
def makeA (S : EngS) (L' : Al) (a kind cells raw : Nat) : EngS :=
  { S with L := L', ob := updI S.ob (a : Int) (some (newOb kind cells raw)), Z := updS S.Z (a : Int) true, weak := (if kind = 8 then updS S.weak (a : Int) true else S.weak) }
def EMakePost (o : Own) (w : World) (r p : Nat) (S : EngS) (ps pt pz pp bw bk : Nat) (v : Value) (kind cells raw : Nat) (e : Ending) (w' : World) : Prop :=
  (∀ L' a, tookL S.L (wordsN cells raw) = some (L', a) → e = .returned (.tuple #[.int .i64 (a : Nat), .int .i64 0]) ∧ S.ob (a : Int) = none ∧ 64 ≤ a ∧ a + wordsN cells raw ≤ S.L.n * 64 ∧ L'.ok = true ∧ L'.n = S.L.n ∧ EngXAt o w r p (makeA S L' a kind cells raw) ps pt pz pp bw bk v w') ∧
  (tookL S.L (wordsN cells raw) = none → e = .returned (.tuple #[.int .i64 0, .int .i64 2]) ∧ EngXAt o w r p S ps pt pz pp bw bk v w')
theorem AbsK.made {K : EngK} {S : EngS} (A : AbsK K S) {a kind cells raw : Nat} (hn : K.ob (a : Int) = none) (L' : Al) (weak' : Int → Bool) :
    AbsK { K with L := L', ob := updI (updI K.ob (a : Int) (some (newOb kind cells raw))) (a : Int) (some (setCnt (newOb kind cells raw) 0)), Z := updS K.Z (a : Int) true, weak := weak' } { S with L := L', ob := updI S.ob (a : Int) (some (newOb kind cells raw)), Z := updS S.Z (a : Int) true, weak := weak' } := by
  refine ⟨rfl, fun k => ?_, A.lim, fun k => ?_, A.st, ?_, A.Pu, A.wat, rfl, A.pend⟩
  · show updI S.ob _ _ k = (updI (updI K.ob _ _) _ _ k).map _
    rw [updI_twice]
    unfold updI
    by_cases e : k = (a : Int)
    · rw [if_pos e, if_pos e]; rfl
    · rw [if_neg e, if_neg e]; exact A.ob k
  · show S.tot k = cntO (updI (updI K.ob _ _) _ _ k) + K.ex k
    rw [updI_twice]
    unfold updI
    by_cases e : k = (a : Int)
    · rw [if_pos e, A.tot k, e, hn]; rfl
    · rw [if_neg e]; exact A.tot k
  · show updS S.Z _ _ = updS K.Z _ _
    rw [A.Z]
theorem SpaceRep.nle {o : Own} {w : World} {r p : Nat} {L : Al} {ob : Int → Option Ob} (S : SpaceRep o w r p L ob) : L.n ≤ 4096 := by
  obtain ⟨pa, A, S⟩ := S
  obtain ⟨g, q, l, b, v, f, AR⟩ := S.ar
  rw [← S.al.n]; exact AR.n1.2
set_option maxRecDepth 100000 in
set_option maxHeartbeats 2000000 in
theorem xmake_no {o : Own} {r p : Nat} {S : EngS} {ps pt pz pp bw bk : Nat} {v : Value} (kind cells raw : Nat) (w : World) (ho : Owned o w) (E : EngX o w r p S ps pt pz pp bw bk v) (hok : S.L.ok = true) (hk : 1 ≤ kind ∧ kind ≤ 8) (hc : cells ≤ 4000) (hr4 : raw ≤ 4000) (hT : tookL S.L (wordsN cells raw) = none) :
    Calls Try.prog 35 #[.pointer (some ⟨p, 0, none⟩), .int .i64 (kind : Nat), .int .i64 (cells : Nat), .int .i64 (raw : Nat)] w (EMakePost o w r p S ps pt pz pp bw bk v kind cells raw) := by
  obtain ⟨K, E, A⟩ := E
  have HM := Lib.hid (show Calls Try.prog 7 #[.pointer (some ⟨ps, 0, none⟩), .int .i64 (kind : Nat), .int .i64 (cells : Nat), .int .i64 (raw : Nat)] w fun e w' => e = .returned (.tuple #[.int .i64 0, .int .i64 2]) ∧ EngXAt o w r p S ps pt pz pp bw bk v w' from
    (smake_any kind cells raw w ho E.sp (by rw [← A.L]; exact hok) hk hc hr4).mono fun e w' h => by
      obtain ⟨h1, o', F, S'⟩ := h.2 (by rw [← A.L]; exact hT)
      exact ⟨h1, o', F.mono (by omega) (by omega), K, E.space F S', A⟩)
  have c0 := E.c0
  have HT := Lib.hid hT
  clear E A hT
  go_enter Try.func35, Try.ntmps35
  go_wp2_with fail
  go_at_call 7
  refine HM.out.mono ?_
  rintro e w1 ⟨rfl, hE⟩
  have HE1 := Lib.hid hE
  clear hE
  go_wp2_with fail
  go_ret2
  exact ⟨fun L' a e => (by rw [HT.out] at e; cases e), fun _ => ⟨rfl, HE1.out⟩⟩
set_option maxRecDepth 100000 in
set_option maxHeartbeats 2000000 in
theorem xmake_yes {o : Own} {r p : Nat} {S : EngS} {ps pt pz pp bw bk : Nat} {v : Value} (kind cells raw : Nat) (L' : Al) (a : Nat) (w : World) (ho : Owned o w) (E : EngX o w r p S ps pt pz pp bw bk v) (hok : S.L.ok = true) (hk : 1 ≤ kind ∧ kind ≤ 8) (hc : cells ≤ 4000) (hr4 : raw ≤ 4000) (hT : tookL S.L (wordsN cells raw) = some (L', a)) (hk8 : ¬ kind = 8) :
    Calls Try.prog 35 #[.pointer (some ⟨p, 0, none⟩), .int .i64 (kind : Nat), .int .i64 (cells : Nat), .int .i64 (raw : Nat)] w (EMakePost o w r p S ps pt pz pp bw bk v kind cells raw) := by
  obtain ⟨K, E, A⟩ := E
  have HM := Lib.hid (show Calls Try.prog 7 #[.pointer (some ⟨ps, 0, none⟩), .int .i64 (kind : Nat), .int .i64 (cells : Nat), .int .i64 (raw : Nat)] w fun e w' => e = .returned (.tuple #[.int .i64 (a : Nat), .int .i64 0]) ∧ (K.ob (a : Int) = none ∧ 64 ≤ a ∧ a + wordsN cells raw ≤ S.L.n * 64 ∧ L'.ok = true ∧ L'.n = S.L.n) ∧ EngAt o w r p { K with L := L', ob := updI K.ob (a : Int) (some (newOb kind cells raw)) } ps pt pz pp bw bk v w' from
    (smake_any kind cells raw w ho E.sp (by rw [← A.L]; exact hok) hk hc hr4).mono fun e w' h => by
      obtain ⟨h1, h2, h3, h4, h5, h6, o', F, S'⟩ := h.1 L' a (by rw [← A.L]; exact hT)
      exact ⟨h1, ⟨h2, h3, by rw [A.L]; exact h4, h5, by rw [A.L]; exact h6⟩, o', F.mono (by omega) (by omega), E.space F S'⟩)
  have c0 := E.c0
  have HT := Lib.hid hT
  have HA := Lib.hid A
  have HK8 := Lib.hid hk8
  have hke : ((kind : Int) == 8) = false := by simp; omega
  have a0 : (0 : Int) ≤ (a : Int) := by omega
  have hn4 := Lib.hid (show S.L.n ≤ 4096 by rw [A.L]; exact E.sp.nle)
  have hwp := Lib.hid (wordsN_pos cells raw)
  clear E A hT hk8 hk hc hr4
  go_enter Try.func35, Try.ntmps35
  go_wp2_with fail
  go_at_call 7
  refine HM.out.mono ?_
  rintro e w1 ⟨rfl, hfacts, o1, F1, E1⟩
  have HFA := Lib.hid hfacts
  have HK1 := Lib.hid (show (a : Int) < KB by
    obtain ⟨f1, f2, f3, _⟩ := hfacts
    have g1 := hn4.out
    have g2 := hwp.out
    simp only [KB]; omega)
  have c2 := E1.c2
  have HF1 := Lib.hid F1
  have HE1 := Lib.hid E1
  clear hfacts F1 E1
  go_wp2_with fail
  go_at_call 57
  refine (HE1.out.pushZ HF1.out.fresh (a : Int) a0 HK1.out).mono ?_
  rintro e w2 ⟨rfl, o2, F2, E2⟩
  have HF2 := Lib.hid (HF1.out.trans F2)
  have HE2 := Lib.hid E2
  clear F2 E2
  go_wp2_with fail
  go_at_call 58
  have HMK := Lib.hid (show Calls Try.prog 58 #[.pointer (some ⟨p, 0, none⟩), .int .i64 (a : Nat), .int .i64 0] w2 _ from mark_any (a : Int) 0 (newOb kind cells raw) 0 w2 HF2.out.fresh HE2.out (if_pos rfl) (by omega) rfl)
  refine HMK.out.mono ?_
  rintro e w3 ⟨rfl, o3, F3, E3⟩
  have HF3 := Lib.hid (HF2.out.trans F3)
  have HE3 := Lib.hid E3
  clear F3 E3
  go_wp2_with fail
  go_ret2
  refine ⟨fun L2 a2 e => ?_, fun e => (by rw [HT.out] at e; cases e)⟩
  rw [HT.out] at e
  cases e
  obtain ⟨f1, f2, f3, f4, f5⟩ := HFA.out
  refine ⟨rfl, ?_, f2, f3, f4, f5, o3, HF3.out, _, HE3.out, ?_⟩
  · have := HA.out.ob (a : Int)
    rw [f1] at this; exact this
  · have T := HA.out.made (kind := kind) (cells := cells) (raw := raw) f1 L' K.weak
    unfold makeA
    rw [if_neg HK8.out, HA.out.weak]
    exact T
end Go.Proofs.Ytlpklloagaccoaa
namespace Go.Proofs.Ytlpklloagaccoaa
open Go.RowKit
set_option linter.unusedVariables false

theorem kindOf_some {K : EngK} {S : EngS} (A : AbsK K S) {h : Int} {x : Ob} (hx : S.ob h = some x) : kindOf K h = x.kind := by
  obtain ⟨y, hy, e, _⟩ := A.of_some hx
  unfold kindOf
  rw [hy, e]; rfl
def wrA (S : EngS) (h : Int) (x : Ob) (k q : Nat) (n : Int) : EngS := { S with ob := updI S.ob h (some (setVal x k (q, n))) }
/-- Behind Set. -/
def setA (S : EngS) (h : Int) (x : Ob) (k q : Nat) (n : Int) : EngS :=
  if S.weak h = true then wrA S h x k q n
  else if (x.val k).1 = 3 then downA (if q = 3 then upA (wrA S h x k q n) n else wrA S h x k q n) (x.val k).2
  else if q = 3 then upA (wrA S h x k q n) n else wrA S h x k q n
theorem wrA_ob {S : EngS} {h : Int} {x : Ob} {k q : Nat} {n m : Int} {y : Ob} (hy : S.ob m = some y) : ∃ z, (wrA S h x k q n).ob m = some z := by
  show ∃ z, updI S.ob h _ m = some z
  unfold updI
  split
  · exact ⟨_, rfl⟩
  · exact ⟨y, hy⟩
theorem AbsK.wr {K : EngK} {S : EngS} (A : AbsK K S) {h : Int} {y : Ob} (hy : K.ob h = some y) (k q : Nat) (n : Int) : AbsK { K with ob := updI K.ob h (some (setVal y k (q, n))) } (wrA S h (setCnt y 0) k q n) := by
  refine ⟨A.L, fun j => ?_, A.lim, fun j => ?_, A.st, A.Z, A.Pu, A.wat, A.weak, A.pend⟩
  · show updI S.ob h _ j = (updI K.ob h _ j).map _
    unfold updI
    by_cases e : j = h
    · rw [if_pos e, if_pos e]; rfl
    · rw [if_neg e, if_neg e]; exact A.ob j
  · show S.tot j = cntO (updI K.ob h _ j) + K.ex j
    unfold updI
    by_cases e : j = h
    · rw [if_pos e, A.tot j, e, hy]; rfl
    · rw [if_neg e]; exact A.tot j
theorem xsetcell {o : Own} {w : World} {r p : Nat} {S : EngS} {ps pt pz pp bw bk : Nat} {v : Value} (h i : Int) (x : Ob) (k q : Nat) (n : Int) (ho : Owned o w) (E : EngX o w r p S ps pt pz pp bw bk v) (hx : S.ob h = some x) (hi : i = k) (hk : k < x.cells) (hq : q ≤ 3) (hn : in64 n) :
    Calls Try.prog 20 #[.pointer (some ⟨ps, 0, none⟩), .int .i64 h, .int .i64 i, valV q n] w fun e w' => e = .returned (.int .i64 0) ∧ EngXAt o w r p (wrA S h x k q n) ps pt pz pp bw bk v w' := by
  obtain ⟨K, E, A⟩ := E
  obtain ⟨y, hy, e1, _⟩ := A.of_some hx
  subst e1
  refine (osetcell_yes h i y k q n w ho E.sp hy hi hk hq hn).mono ?_
  rintro e w' ⟨rfl, o', F, S'⟩
  exact ⟨rfl, o', F.mono (by omega) (by omega), _, E.space F S', A.wr hy k q n⟩
theorem xcell {o : Own} {w : World} {r p : Nat} {S : EngS} {ps pt pz pp bw bk : Nat} {v : Value} (h i : Int) (x : Ob) (k : Nat) (ho : Owned o w) (E : EngX o w r p S ps pt pz pp bw bk v) (hx : S.ob h = some x) (hi : i = k) (hk : k < x.cells) :
    Calls Try.prog 11 #[.pointer (some ⟨ps, 0, none⟩), .int .i64 h, .int .i64 i] w fun e w' => e = .returned (.tuple #[valV (x.val k).1 (x.val k).2, .int .i64 0]) ∧ Below w.heap.size w w' := by
  obtain ⟨K, E, A⟩ := E
  obtain ⟨y, hy, e1, _⟩ := A.of_some hx
  subst e1
  exact ocellv_yes h i y k w ho E.sp hy hi hk
theorem EngX.p0 {o : Own} {w : World} {r p : Nat} {S : EngS} {ps pt pz pp bw bk : Nat} {v : Value} (E : EngX o w r p S ps pt pz pp bw bk v) : w.cell? ⟨p, 0, none⟩ = some (.pointer (some ⟨ps, 0, none⟩)) ∧ w.cell? ⟨p, 5, none⟩ = some (.map (some bk)) ∧ p < w.heap.size := by
  obtain ⟨K, E, A⟩ := E
  exact ⟨E.c0, E.c5, E.blk.lt⟩
theorem EngX.lookW {o : Own} {w : World} {r p : Nat} {S : EngS} {ps pt pz pp bw bk : Nat} {v : Value} (E : EngX o w r p S ps pt pz pp bw bk v) (h : Int) :
    (Instr.lookup 76 (.map (some bk)) (.int .i64 h) false).run Try.prog w = .ok (.bool (S.weak h)) w := by
  obtain ⟨K, E, A⟩ := E
  rw [MapIs.lookup E.weak.2 Try.underlying76 Try.underlying3 zero_boolL false h, A.weak]
  simp [setMap_get]
theorem nat_of_beq {a : Nat} (h : ((a : Int) == 3) = true) : a = 3 := by
  have h4 : (a : Int) = 3 := by simpa using h
  omega
theorem nat_of_bne {a : Nat} (h : ((a : Int) == 3) = false) : ¬ a = 3 := by
  have h4 : ¬ (a : Int) = 3 := by simpa using h
  omega
end Go.Proofs.Ytlpklloagaccoaa
