/- Objects are made, and counted (count.Make). Conditions: nothing was freed; parts of headers in range. Cells are written, and what they refer to is counted (count.Right, Set). Conditions: the engine is as one that was made; what is referred to is an object. -/
import Derived.Test.YtlpklloagaccoaaGreatEngS
import Derived.Outline
namespace Go.Proofs.YtlpklloagaccoaaGreat
open Go.RowKit
set_option linter.unusedVariables false

/-- Behind Make, where there is room. -/
def makeA (S : EngS) (L' : Al) (a kind cells raw : Nat) : EngS :=
  { S with L := L', ob := updI S.ob (a : Int) (some (newOb kind cells raw)), Z := updS S.Z (a : Int) true, weak := (if kind = 8 then updS S.weak (a : Int) true else S.weak) }
def EMakePost (o : Own) (w : World) (r p : Nat) (S : EngS) (ps pt pz pp bw bk : Nat) (v : Value) (kind cells raw : Nat) (e : Ending) (w' : World) : Prop :=
  (∀ L' a, tookL S.L (wordsN cells raw) = some (L', a) → e = .returned (.tuple #[.int .i64 (a : Nat), .int .i64 0]) ∧ S.ob (a : Int) = none ∧ 64 ≤ a ∧ a + wordsN cells raw ≤ S.L.n * 64 ∧ L'.ok = true ∧ L'.n = S.L.n ∧ EngXAt o w r p (makeA S L' a kind cells raw) ps pt pz pp bw bk v w') ∧
  (tookL S.L (wordsN cells raw) = none → e = .returned (.tuple #[.int .i64 0, .int .i64 2]) ∧ EngXAt o w r p S ps pt pz pp bw bk v w')
theorem AbsK.made {K : EngK} {S : EngS} (A : AbsK K S) {a kind cells raw : Nat} (hn : K.ob (a : Int) = none) (L' : Al) (weak' : Int → Bool) :
    AbsK { K with L := L', ob := updI (updI K.ob (a : Int) (some (newOb kind cells raw))) (a : Int) (some (setCnt (newOb kind cells raw) 0)), Z := updS K.Z (a : Int) true, weak := weak' } { S with L := L', ob := updI S.ob (a : Int) (some (newOb kind cells raw)), Z := updS S.Z (a : Int) true, weak := weak' } := by
  refine ⟨rfl, fun k => ?_, A.lim, fun k => ?_, A.st, ?_, A.Pu, A.wat, rfl, A.pend⟩
  · show updI S.ob _ _ k = (updI (updI K.ob _ _) _ _ k).map _
    rw [updI_twice]
    unfold updI
    by_cases e : k = (a : Int)
    · rw [if_pos e, if_pos e]; rfl
    · rw [if_neg e, if_neg e]; exact A.ob k
  · show S.tot k = cntO (updI (updI K.ob _ _) _ _ k) + K.ex k
    rw [updI_twice]
    unfold updI
    by_cases e : k = (a : Int)
    · rw [if_pos e, A.tot k, e, hn]; rfl
    · rw [if_neg e]; exact A.tot k
  · show updS S.Z _ _ = updS K.Z _ _
    rw [A.Z]
theorem SpaceRep.nle {o : Own} {w : World} {r p : Nat} {L : Al} {ob : Int → Option Ob} (S : SpaceRep o w r p L ob) : L.n ≤ 4096 := by
  obtain ⟨pa, A, S⟩ := S
  obtain ⟨g, q, l, b, v, f, AR⟩ := S.ar
  rw [← S.al.n]; exact AR.n1.2
set_option maxRecDepth 100000 in
set_option maxHeartbeats 2000000 in
theorem xmake_no {o : Own} {r p : Nat} {S : EngS} {ps pt pz pp bw bk : Nat} {v : Value} (kind cells raw : Nat) (w : World) (ho : Owned o w) (E : EngX o w r p S ps pt pz pp bw bk v) (hok : S.L.ok = true) (hk : 1 ≤ kind ∧ kind ≤ 8) (hc : cells ≤ 4000) (hr4 : raw ≤ 4000) (hT : tookL S.L (wordsN cells raw) = none) :
    Calls Tryz.prog 66 #[.pointer (some ⟨p, 0, none⟩), .int .i64 (kind : Nat), .int .i64 (cells : Nat), .int .i64 (raw : Nat)] w (EMakePost o w r p S ps pt pz pp bw bk v kind cells raw) := by
  obtain ⟨K, E, A⟩ := E
  have HM := Lib.hid (show Calls Tryz.prog 49 #[.pointer (some ⟨ps, 0, none⟩), .int .i64 (kind : Nat), .int .i64 (cells : Nat), .int .i64 (raw : Nat)] w fun e w' => e = .returned (.tuple #[.int .i64 0, .int .i64 2]) ∧ EngXAt o w r p S ps pt pz pp bw bk v w' from
    (smake_any kind cells raw w ho E.sp (by rw [← A.L]; exact hok) hk hc hr4).mono fun e w' h => by
      obtain ⟨h1, o', F, S'⟩ := h.2 (by rw [← A.L]; exact hT)
      exact ⟨h1, o', F.mono (by omega) (by omega), K, E.space F S', A⟩)
  have c0 := E.c0
  have HT := Lib.hid hT
  clear E A hT
  go_enter Tryz.func66, Tryz.ntmps66
  go_wp2_with fail
  go_at_call 49
  refine HM.out.mono ?_
  rintro e w1 ⟨rfl, hE⟩
  have HE1 := Lib.hid hE
  clear hE
  go_wp2_with fail
  go_ret2
  exact ⟨fun L' a e => (by rw [HT.out] at e; cases e), fun _ => ⟨rfl, HE1.out⟩⟩
set_option maxRecDepth 100000 in
set_option maxHeartbeats 2000000 in
theorem xmake_yes {o : Own} {r p : Nat} {S : EngS} {ps pt pz pp bw bk : Nat} {v : Value} (kind cells raw : Nat) (L' : Al) (a : Nat) (w : World) (ho : Owned o w) (E : EngX o w r p S ps pt pz pp bw bk v) (hok : S.L.ok = true) (hk : 1 ≤ kind ∧ kind ≤ 8) (hc : cells ≤ 4000) (hr4 : raw ≤ 4000) (hT : tookL S.L (wordsN cells raw) = some (L', a)) (hk8 : ¬ kind = 8) :
    Calls Tryz.prog 66 #[.pointer (some ⟨p, 0, none⟩), .int .i64 (kind : Nat), .int .i64 (cells : Nat), .int .i64 (raw : Nat)] w (EMakePost o w r p S ps pt pz pp bw bk v kind cells raw) := by
  obtain ⟨K, E, A⟩ := E
  have HM := Lib.hid (show Calls Tryz.prog 49 #[.pointer (some ⟨ps, 0, none⟩), .int .i64 (kind : Nat), .int .i64 (cells : Nat), .int .i64 (raw : Nat)] w fun e w' => e = .returned (.tuple #[.int .i64 (a : Nat), .int .i64 0]) ∧ (K.ob (a : Int) = none ∧ 64 ≤ a ∧ a + wordsN cells raw ≤ S.L.n * 64 ∧ L'.ok = true ∧ L'.n = S.L.n) ∧ EngAt o w r p { K with L := L', ob := updI K.ob (a : Int) (some (newOb kind cells raw)) } ps pt pz pp bw bk v w' from
    (smake_any kind cells raw w ho E.sp (by rw [← A.L]; exact hok) hk hc hr4).mono fun e w' h => by
      obtain ⟨h1, h2, h3, h4, h5, h6, o', F, S'⟩ := h.1 L' a (by rw [← A.L]; exact hT)
      exact ⟨h1, ⟨h2, h3, by rw [A.L]; exact h4, h5, by rw [A.L]; exact h6⟩, o', F.mono (by omega) (by omega), E.space F S'⟩)
  have c0 := E.c0
  have HT := Lib.hid hT
  have HA := Lib.hid A
  have HK8 := Lib.hid hk8
  have hke : ((kind : Int) == 8) = false := by simp; omega
  have a0 : (0 : Int) ≤ (a : Int) := by omega
  have hn4 := Lib.hid (show S.L.n ≤ 4096 by rw [A.L]; exact E.sp.nle)
  have hwp := Lib.hid (wordsN_pos cells raw)
  clear E A hT hk8 hk hc hr4
  go_enter Tryz.func66, Tryz.ntmps66
  go_wp2_with fail
  go_at_call 49
  refine HM.out.mono ?_
  rintro e w1 ⟨rfl, hfacts, o1, F1, E1⟩
  have HFA := Lib.hid hfacts
  have HK1 := Lib.hid (show (a : Int) < KB by
    obtain ⟨f1, f2, f3, _⟩ := hfacts
    have g1 := hn4.out
    have g2 := hwp.out
    simp only [KB]; omega)
  have c2 := E1.c2
  have HF1 := Lib.hid F1
  have HE1 := Lib.hid E1
  clear hfacts F1 E1
  go_wp2_with fail
  go_at_call 116
  refine (HE1.out.pushZ HF1.out.fresh (a : Int) a0 HK1.out).mono ?_
  rintro e w2 ⟨rfl, o2, F2, E2⟩
  have HF2 := Lib.hid (HF1.out.trans F2)
  have HE2 := Lib.hid E2
  clear F2 E2
  go_wp2_with fail
  go_at_call 117
  have HMK := Lib.hid (show Calls Tryz.prog 117 #[.pointer (some ⟨p, 0, none⟩), .int .i64 (a : Nat), .int .i64 0] w2 _ from mark_any (a : Int) 0 (newOb kind cells raw) 0 w2 HF2.out.fresh HE2.out (if_pos rfl) (by omega) rfl)
  refine HMK.out.mono ?_
  rintro e w3 ⟨rfl, o3, F3, E3⟩
  have HF3 := Lib.hid (HF2.out.trans F3)
  have HE3 := Lib.hid E3
  clear F3 E3
  go_wp2_with fail
  go_ret2
  refine ⟨fun L2 a2 e => ?_, fun e => (by rw [HT.out] at e; cases e)⟩
  rw [HT.out] at e
  cases e
  obtain ⟨f1, f2, f3, f4, f5⟩ := HFA.out
  refine ⟨rfl, ?_, f2, f3, f4, f5, o3, HF3.out, _, HE3.out, ?_⟩
  · have := HA.out.ob (a : Int)
    rw [f1] at this; exact this
  · have T := HA.out.made (kind := kind) (cells := cells) (raw := raw) f1 L' K.weak
    unfold makeA
    rw [if_neg HK8.out, HA.out.weak]
    exact T
end Go.Proofs.YtlpklloagaccoaaGreat
namespace Go.Proofs.YtlpklloagaccoaaGreat
open Go.RowKit
set_option linter.unusedVariables false

theorem kindOf_some {K : EngK} {S : EngS} (A : AbsK K S) {h : Int} {x : Ob} (hx : S.ob h = some x) : kindOf K h = x.kind := by
  obtain ⟨y, hy, e, _⟩ := A.of_some hx
  unfold kindOf
  rw [hy, e]; rfl
set_option maxRecDepth 100000 in
theorem xright_val {o : Own} {r p : Nat} {S : EngS} {ps pt pz pp bw bk : Nat} {v : Value} (q : Nat) (n : Int) (w : World) (ho : Owned o w) (E : EngX o w r p S ps pt pz pp bw bk v) (hq : q ≤ 2) :
    Calls Tryz.prog 90 #[.pointer (some ⟨p, 0, none⟩), valV q n] w fun e w' => e = .returned (.bool true) ∧ Below w.heap.size w w' := by
  have HK := Lib.hid (fun W => okind_yes q n W (by omega))
  have hne : ((q : Int) != 3) = true := by simp; omega
  clear E hq ho
  go_enter Tryz.func90, Tryz.ntmps90
  go_wp2_with (go_at_call 113; refine (HK.out _).mono ?_; rintro e w2 ⟨rfl, o2, rfl⟩)
  go_ret
  exact ⟨rfl, by repeat (first | exact Below.refl _ _ | refine Below.alloc ?_ (by first | omega | (simp; done) | (simp; omega)) _ | refine Below.drew ?_)⟩
set_option maxRecDepth 100000 in
theorem xright_ref {o : Own} {r p : Nat} {S : EngS} {ps pt pz pp bw bk : Nat} {v : Value} (n : Int) (x : Ob) (w : World) (ho : Owned o w) (E : EngX o w r p S ps pt pz pp bw bk v) (hx : S.ob n = some x) :
    Calls Tryz.prog 90 #[.pointer (some ⟨p, 0, none⟩), valV 3 n] w fun e w' => e = .returned (.bool true) ∧ Below w.heap.size w w' := by
  obtain ⟨K, E, A⟩ := E
  have hko := kindOf_some A hx
  obtain ⟨y, hy, e1, _⟩ := A.of_some hx
  have hk1 : 1 ≤ x.kind := by rw [e1]; exact (E.sp.obok hy).1.1
  have HK := Lib.hid (fun W => show Calls Tryz.prog 113 #[valV 3 n] W fun e w' => e = .returned (.bool true) ∧ ∃ o, W.alloc o = w' from okind_yes 3 n W (by omega))
  have HKd := Lib.hid (fun (w1 : World) (F : Fr 0 0 o o w w1) => show Calls Tryz.prog 33 #[.pointer (some ⟨p, 0, none⟩), .int .i64 n] w1 fun e w' => e = .returned (.int .i64 (x.kind : Nat)) ∧ Fr 0 0 o o w w' from by
    rw [← hko]
    exact (ekind_any n w1 F.fresh ⟨ps, pt, pz, pp, bw, bk, v, E.keep F (.inr (Nat.zero_le _))⟩).mono fun e w' h => ⟨h.1, F.below h.2⟩)
  have hne : ((x.kind : Int) != 0) = true := by simp; omega
  have HO := Lib.hid ho
  clear E A hx hko hy e1 hk1 ho
  generalize x.kind = kd at *
  go_enter Tryz.func90, Tryz.ntmps90
  go_wp2_with (first
    | (go_at_call 113; refine (HK.out _).mono ?_; rintro e w2 ⟨rfl, o2, rfl⟩)
    | (go_at_call 33; refine (HKd.out _ (by repeat (first | exact Fr.refl HO.out | refine Fr.drew ?_ | refine Fr.alloc ?_ _))).mono ?_; rintro e w3 ⟨rfl, F3⟩; have HF3 := Lib.hid F3; clear F3))
  go_ret
  exact ⟨rfl, HF3.out.below0⟩
def wrA (S : EngS) (h : Int) (x : Ob) (k q : Nat) (n : Int) : EngS := { S with ob := updI S.ob h (some (setVal x k (q, n))) }
/-- Behind Set. -/
def setA (S : EngS) (h : Int) (x : Ob) (k q : Nat) (n : Int) : EngS :=
  if S.weak h = true then wrA S h x k q n
  else if (x.val k).1 = 3 then downA (if q = 3 then upA (wrA S h x k q n) n else wrA S h x k q n) (x.val k).2
  else if q = 3 then upA (wrA S h x k q n) n else wrA S h x k q n
theorem wrA_ob {S : EngS} {h : Int} {x : Ob} {k q : Nat} {n m : Int} {y : Ob} (hy : S.ob m = some y) : ∃ z, (wrA S h x k q n).ob m = some z := by
  show ∃ z, updI S.ob h _ m = some z
  unfold updI
  split
  · exact ⟨_, rfl⟩
  · exact ⟨y, hy⟩
theorem AbsK.wr {K : EngK} {S : EngS} (A : AbsK K S) {h : Int} {y : Ob} (hy : K.ob h = some y) (k q : Nat) (n : Int) : AbsK { K with ob := updI K.ob h (some (setVal y k (q, n))) } (wrA S h (setCnt y 0) k q n) := by
  refine ⟨A.L, fun j => ?_, A.lim, fun j => ?_, A.st, A.Z, A.Pu, A.wat, A.weak, A.pend⟩
  · show updI S.ob h _ j = (updI K.ob h _ j).map _
    unfold updI
    by_cases e : j = h
    · rw [if_pos e, if_pos e]; rfl
    · rw [if_neg e, if_neg e]; exact A.ob j
  · show S.tot j = cntO (updI K.ob h _ j) + K.ex j
    unfold updI
    by_cases e : j = h
    · rw [if_pos e, A.tot j, e, hy]; rfl
    · rw [if_neg e]; exact A.tot j
theorem xsetcell {o : Own} {w : World} {r p : Nat} {S : EngS} {ps pt pz pp bw bk : Nat} {v : Value} (h i : Int) (x : Ob) (k q : Nat) (n : Int) (ho : Owned o w) (E : EngX o w r p S ps pt pz pp bw bk v) (hx : S.ob h = some x) (hi : i = k) (hk : k < x.cells) (hq : q ≤ 3) (hn : in64 n) :
    Calls Tryz.prog 61 #[.pointer (some ⟨ps, 0, none⟩), .int .i64 h, .int .i64 i, valV q n] w fun e w' => e = .returned (.int .i64 0) ∧ EngXAt o w r p (wrA S h x k q n) ps pt pz pp bw bk v w' := by
  obtain ⟨K, E, A⟩ := E
  obtain ⟨y, hy, e1, _⟩ := A.of_some hx
  subst e1
  refine (osetcell_yes h i y k q n w ho E.sp hy hi hk hq hn).mono ?_
  rintro e w' ⟨rfl, o', F, S'⟩
  exact ⟨rfl, o', F.mono (by omega) (by omega), _, E.space F S', A.wr hy k q n⟩
theorem xcell {o : Own} {w : World} {r p : Nat} {S : EngS} {ps pt pz pp bw bk : Nat} {v : Value} (h i : Int) (x : Ob) (k : Nat) (ho : Owned o w) (E : EngX o w r p S ps pt pz pp bw bk v) (hx : S.ob h = some x) (hi : i = k) (hk : k < x.cells) :
    Calls Tryz.prog 59 #[.pointer (some ⟨ps, 0, none⟩), .int .i64 h, .int .i64 i] w fun e w' => e = .returned (.tuple #[valV (x.val k).1 (x.val k).2, .int .i64 0]) ∧ Below w.heap.size w w' := by
  obtain ⟨K, E, A⟩ := E
  obtain ⟨y, hy, e1, _⟩ := A.of_some hx
  subst e1
  exact ocellv_yes h i y k w ho E.sp hy hi hk
theorem EngX.p0 {o : Own} {w : World} {r p : Nat} {S : EngS} {ps pt pz pp bw bk : Nat} {v : Value} (E : EngX o w r p S ps pt pz pp bw bk v) : w.cell? ⟨p, 0, none⟩ = some (.pointer (some ⟨ps, 0, none⟩)) ∧ w.cell? ⟨p, 5, none⟩ = some (.map (some bk)) ∧ p < w.heap.size := by
  obtain ⟨K, E, A⟩ := E
  exact ⟨E.c0, E.c5, E.blk.lt⟩
theorem EngX.lookW {o : Own} {w : World} {r p : Nat} {S : EngS} {ps pt pz pp bw bk : Nat} {v : Value} (E : EngX o w r p S ps pt pz pp bw bk v) (h : Int) :
    (Instr.lookup 100 (.map (some bk)) (.int .i64 h) false).run Tryz.prog w = .ok (.bool (S.weak h)) w := by
  obtain ⟨K, E, A⟩ := E
  rw [MapIs.lookup E.weak.2 Tryz.underlying100 Tryz.underlying3 zero_boolL false h, A.weak]
  simp [setMap_get]
theorem nat_of_beq {a : Nat} (h : ((a : Int) == 3) = true) : a = 3 := by
  have h4 : (a : Int) = 3 := by simpa using h
  omega
theorem nat_of_bne {a : Nat} (h : ((a : Int) == 3) = false) : ¬ a = 3 := by
  have h4 : ¬ (a : Int) = 3 := by simpa using h
  omega
set_option maxRecDepth 100000 in
set_option maxHeartbeats 2000000 in
theorem xset_any {o : Own} {r p : Nat} {S : EngS} {ps pt pz pp bw bk : Nat} {v : Value} (h i : Int) (x : Ob) (k q : Nat) (n : Int) (w : World) (hr : 1 ≤ r) (ho : Owned o w) (E : EngX o w r p S ps pt pz pp bw bk v) (hx : S.ob h = some x) (hi : i = k) (hk : k < x.cells) (hq : q ≤ 3) (hn : in64 n)
    (hv : q = 3 → ∃ y, S.ob n = some y) (hw : S.weak h = false → (x.val k).1 = 3 → ∃ y, S.ob (x.val k).2 = some y) :
    Calls Tryz.prog 68 #[.pointer (some ⟨p, 0, none⟩), .int .i64 h, .int .i64 i, valV q n] w fun e w' => e = .returned (.int .i64 0) ∧ EngXAt o w r p (setA S h x k q n) ps pt pz pp bw bk v w' := by
  have HCl := Lib.hid (fun (y : Obj) (w1 : World) (G : Grew o w y w1) => show Calls Tryz.prog 59 #[.pointer (some ⟨ps, 0, none⟩), .int .i64 h, .int .i64 i] w1 fun e w' => e = .returned (.tuple #[valV (x.val k).1 (x.val k).2, .int .i64 0]) ∧ Grew o w y w' from
    (xcell h i x k G.fr.fresh (E.keep G.fr (.inr (Nat.zero_le _))) hx hi hk).mono fun e w' h => ⟨h.1, G.below h.2⟩)
  have HRt := Lib.hid (fun (w1 : World) (F : Fr 0 0 o o w w1) => show Calls Tryz.prog 90 #[.pointer (some ⟨p, 0, none⟩), valV q n] w1 fun e w' => e = .returned (.bool true) ∧ Below w1.heap.size w1 w' from by
    by_cases h3 : q = 3
    · obtain ⟨y, hy⟩ := hv h3
      subst h3
      exact xright_ref n y w1 F.fresh (E.keep F (.inr (Nat.zero_le _))) hy
    · exact xright_val q n w1 F.fresh (E.keep F (.inr (Nat.zero_le _))) (by omega))
  have HSt := Lib.hid (fun (w1 : World) (F : Fr 0 0 o o w w1) => show Calls Tryz.prog 61 #[.pointer (some ⟨ps, 0, none⟩), .int .i64 h, .int .i64 i, valV q n] w1 fun e w' => e = .returned (.int .i64 0) ∧ EngXAt o w1 r p (wrA S h x k q n) ps pt pz pp bw bk v w' from
    xsetcell h i x k q n F.fresh (E.keep F (.inr (Nat.zero_le _))) hx hi hk hq hn)
  obtain ⟨c0, c5, hpl⟩ := E.p0
  have HO := Lib.hid ho
  have HV := Lib.hid hv
  have HW := Lib.hid hw
  have hnot : ∀ (x : Bool) (w : World), (Op.unary .not (.bool x)).run Tryz.prog w = .ok (.bool (!x)) w := fun _ _ => rfl
  obtain ⟨wk, hwk⟩ : ∃ b, b = S.weak h := ⟨_, rfl⟩
  have HWK := Lib.hid hwk
  clear E hx hk hq hn hv hw ho hi hwk
  have hcase : (wk = true) ∨ (wk = false ∧ ((q : Int) == 3) = true ∧ (((x.val k).1 : Int) == 3) = true) ∨ (wk = false ∧ ((q : Int) == 3) = true ∧ (((x.val k).1 : Int) == 3) = false) ∨ (wk = false ∧ ((q : Int) == 3) = false ∧ (((x.val k).1 : Int) == 3) = true) ∨ (wk = false ∧ ((q : Int) == 3) = false ∧ (((x.val k).1 : Int) == 3) = false) := by
    cases wk <;> cases ((q : Int) == 3) <;> cases (((x.val k).1 : Int) == 3) <;> simp
  rcases hcase with rfl | ⟨rfl, hq3, hw3⟩ | ⟨rfl, hq3, hw3⟩ | ⟨rfl, hq3, hw3⟩ | ⟨rfl, hq3, hw3⟩
  all_goals
    have HUP := Lib.hid (fun (o3 : Own) (w3 : World) (ho3 : Owned o3 w3) (E3 : EngX o3 w3 r p (wrA S h x k q n) ps pt pz pp bw bk v) (h3 : ((q : Int) == 3) = true) => show Calls Tryz.prog 118 #[.pointer (some ⟨p, 0, none⟩), .int .i64 n] w3 (UnitX o3 w3 r p (upA (wrA S h x k q n) n) ps pt pz pp bw bk v) from by
      obtain ⟨y, hy⟩ := HV.out (nat_of_beq h3)
      obtain ⟨z, hz⟩ := wrA_ob (h := h) (x := x) (k := k) (q := q) (n := n) hy
      exact xup n z w3 hr ho3 E3 hz)
    have HDN := Lib.hid (fun (S' : EngS) (o3 : Own) (w3 : World) (ho3 : Owned o3 w3) (hS : S'.ob = (wrA S h x k q n).ob) (E3 : EngX o3 w3 r p S' ps pt pz pp bw bk v) (hwf : S.weak h = false) (h3 : (((x.val k).1 : Int) == 3) = true) => show Calls Tryz.prog 119 #[.pointer (some ⟨p, 0, none⟩), .int .i64 (x.val k).2] w3 (UnitX o3 w3 r p (downA S' (x.val k).2) ps pt pz pp bw bk v) from by
      obtain ⟨y, hy⟩ := HW.out hwf (nat_of_beq h3)
      obtain ⟨z, hz⟩ := wrA_ob (h := h) (x := x) (k := k) (q := q) (n := n) hy
      exact xdown (x.val k).2 z w3 hr ho3 E3 (by rw [hS]; exact hz))
    go_enter Tryz.func68, Tryz.ntmps68
    go_wp2_with fail
    go_at_call 59
    refine (HCl.out (.cells #[.int .i64 (q : Nat), .int .i64 n] 30) _ (by repeat (first | exact Grew.base HO.out _ | refine Grew.drew ?_ | refine Grew.alloc ?_ _))).mono ?_
    rintro e w1 ⟨rfl, G1⟩
    have X1 := G1.x_
    have x0 : w1.cell? ⟨w.heap.size, 0, none⟩ = some (.int .i64 (q : Nat)) := by simp [World.cell?, X1]
    have x1 : w1.cell? ⟨w.heap.size, 1, none⟩ = some (.int .i64 n) := by simp [World.cell?, X1]
    have hl1 := lt_of_block X1
    have d0 := G1.fr.cell0 c0
    have d5 := G1.fr.cell0 c5
    have hp1 : p < w1.heap.size := Nat.lt_of_lt_of_le hpl G1.fr.size
    have HG1 := Lib.hid G1
    clear X1 G1
    go_wp2_with fail
    obtain ⟨wa, hwa⟩ : ∃ wa, wa = w1.alloc (.cells #[.int .i64 ((x.val k).1 : Nat), .int .i64 (x.val k).2] 30) := ⟨_, rfl⟩
    rw [← hwa]
    have HUX := Lib.hid (show wa.heap[w.heap.size]? = some (.cells #[.int .i64 (q : Nat), .int .i64 n] 30 (0, 0)) by rw [hwa]; exact (heap_alloc_old _ _ hl1).trans HG1.out.x_)
    have HUW := Lib.hid (show wa.heap[w1.heap.size]? = some (.cells #[.int .i64 ((x.val k).1 : Nat), .int .i64 (x.val k).2] 30 (0, 0)) by rw [hwa]; exact heap_alloc_new w1 _)
    have HOX := Lib.hid (show o w.heap.size = 0 from HO.out _ (Nat.le_refl _))
    have HOW := Lib.hid (show o w1.heap.size = 0 from HO.out _ HG1.out.fr.size)
    have HFa := Lib.hid (show Fr 0 0 o o w wa by rw [hwa]; exact HG1.out.fr.alloc _)
    clear hwa
    go_at_call 90
    refine (HRt.out wa HFa.out).mono ?_
    rintro e w2 ⟨rfl, hb2⟩
    have HUX2 := Lib.hid ((hb2.block _ (lt_of_block HUX.out)).trans HUX.out)
    have HUW2 := Lib.hid ((hb2.block _ (lt_of_block HUW.out)).trans HUW.out)
    have HF2 := Lib.hid (HFa.out.below hb2)
    have e0 := HF2.out.cell0 c0
    have x0 : w2.cell? ⟨w.heap.size, 0, none⟩ = some (.int .i64 (q : Nat)) := by simp [World.cell?, HUX2.out]
    have x1 : w2.cell? ⟨w.heap.size, 1, none⟩ = some (.int .i64 n) := by simp [World.cell?, HUX2.out]
    clear hb2
    go_wp2_with fail
    go_region_with (go_at_call 61; refine (HSt.out _ (by repeat (first | exact HF2.out | refine Fr.drewN ?_ _ | refine Fr.drew ?_))).mono ?_; rintro e w3 ⟨rfl, o3, F3, E3⟩; have U3 := F3.unown (by omega) (b := w.heap.size) (x := .cells #[.int .i64 (q : Nat), .int .i64 n] 30 (0, 0)) HUX2.out HOX.out; have V3 := F3.unown (by omega) (b := w1.heap.size) (x := .cells #[.int .i64 ((x.val k).1 : Nat), .int .i64 (x.val k).2] 30 (0, 0)) HUW2.out HOW.out; have HU3 := Lib.hid U3; have HV3 := Lib.hid V3; have HF3 := Lib.hid ((HF2.out.drew.none r (r + 29)).trans F3); have HE3 := Lib.hid E3; clear U3 V3 F3 E3)
    all_goals
      have x0 : w3.cell? ⟨w.heap.size, 0, none⟩ = some (.int .i64 (q : Nat)) := by simp [World.cell?, HU3.out.1]
      have x1 : w3.cell? ⟨w.heap.size, 1, none⟩ = some (.int .i64 n) := by simp [World.cell?, HU3.out.1]
      have y0 : w3.cell? ⟨w1.heap.size, 0, none⟩ = some (.int .i64 ((x.val k).1 : Nat)) := by simp [World.cell?, HV3.out.1]
      have y1 : w3.cell? ⟨w1.heap.size, 1, none⟩ = some (.int .i64 (x.val k).2) := by simp [World.cell?, HV3.out.1]
      have g5 := HE3.out.p0.2.1
      have hl := HE3.out.lookW h
      have hwkk := HWK.out
      rw [show (wrA S h x k q n).weak h = S.weak h from rfl, ← hwkk] at hl
      clear hwkk
      go_wp2_with fail
      first
      | (go_ret
         refine ⟨rfl, o3, HF3.out, ?_⟩
         unfold setA
         first
         | (rw [if_pos HWK.out.symm]; exact HE3.out)
         | (rw [if_neg (by rw [← HWK.out]; decide), if_neg (nat_of_bne hw3), if_neg (nat_of_bne hq3)]; exact HE3.out))
      | (go_at_call 118
         refine (HUP.out o3 w3 HF3.out.fresh HE3.out hq3).mono ?_
         rintro e w4 ⟨rfl, o4, F4, E4⟩
         have V4 := F4.unown (by omega) HV3.out.1 HV3.out.2
         have HV4 := Lib.hid V4
         have HF4 := Lib.hid (HF3.out.trans F4)
         have HE4 := Lib.hid E4
         have z0 : w4.cell? ⟨w1.heap.size, 0, none⟩ = some (.int .i64 ((x.val k).1 : Nat)) := by simp [World.cell?, HV4.out.1]
         have z1 : w4.cell? ⟨w1.heap.size, 1, none⟩ = some (.int .i64 (x.val k).2) := by simp [World.cell?, HV4.out.1]
         clear V4 F4 E4
         go_wp2_with fail
         first
         | (go_ret
            refine ⟨rfl, o4, HF4.out, ?_⟩
            unfold setA
            rw [if_neg (by rw [← HWK.out]; decide), if_neg (nat_of_bne hw3), if_pos (nat_of_beq hq3)]
            exact HE4.out)
         | (go_at_call 119
            refine (HDN.out (upA (wrA S h x k q n) n) o4 w4 HF4.out.fresh rfl HE4.out HWK.out.symm hw3).mono ?_
            rintro e w5 ⟨rfl, o5, F5, E5⟩
            have HF5 := Lib.hid (HF4.out.trans F5)
            have HE5 := Lib.hid E5
            clear F5 E5
            go_wp2_with fail
            go_ret
            refine ⟨rfl, o5, HF5.out, ?_⟩
            unfold setA
            rw [if_neg (by rw [← HWK.out]; decide), if_pos (nat_of_beq hw3), if_pos (nat_of_beq hq3)]
            exact HE5.out))
      | (go_at_call 119
         refine (HDN.out (wrA S h x k q n) o3 w3 HF3.out.fresh rfl HE3.out HWK.out.symm hw3).mono ?_
         rintro e w5 ⟨rfl, o5, F5, E5⟩
         have HF5 := Lib.hid (HF3.out.trans F5)
         have HE5 := Lib.hid E5
         clear F5 E5
         go_wp2_with fail
         go_ret
         refine ⟨rfl, o5, HF5.out, ?_⟩
         unfold setA
         rw [if_neg (by rw [← HWK.out]; decide), if_pos (nat_of_beq hw3), if_neg (nat_of_bne hq3)]
         exact HE5.out)
end Go.Proofs.YtlpklloagaccoaaGreat
