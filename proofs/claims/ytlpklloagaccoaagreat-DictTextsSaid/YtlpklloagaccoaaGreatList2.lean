/- Lists grow (list.Keep, Len, Push). Conditions: the engine is as one that was made; the list is one. Things are pushed (list.Push). Conditions: the engine is as one that was made; the list is one. Lists are made, and what they hold is told (list.Made, New, at, Get). Conditions: the engine is as one that was made; the list is one. -/
import Derived.Test.YtlpklloagaccoaaGreatRoom
import Derived.Outline
namespace Go.Proofs.YtlpklloagaccoaaGreat
open Go.RowKit
set_option linter.unusedVariables false

set_option maxRecDepth 100000 in
theorem keep_same {o : Own} {r p : Nat} {S : EngS} {h : Int} {x : Ob} {s : Int} {c : Nat} (n : Int) (w : World) (hr : 1 ≤ r) (ho : Owned o w) (E : EngRep o w r p S) (A : StoreAt S h x s c) (hn : in64 n) (hv : (x.val 0).1 ≠ 3) :
    Calls Tryz.prog 92 #[.pointer (some ⟨p, 0, none⟩), .int .i64 h, .int .i64 s, .int .i64 n] w (EngDo o w r p (wrA S h x 0 1 n) (.tuple #[])) := by
  have HS := Lib.hid ((lstore w ho E A).mono fun e w' (hh : _ ∧ Below w.heap.size w w') => (⟨hh.1, (Fr.refl (lo := 0) (hi := 0) ho).below hh.2⟩ : e = .returned (.tuple #[.int .i64 s, .int .i64 (c : Nat)]) ∧ Fr 0 0 o o w w'))
  have HZ := Lib.hid (fun (w1 : World) (F : Fr 0 0 o o w w1) => lsized h x n w1 hr F.fresh (E.keep F (.inr (Nat.zero_le _))) A.ob (by rw [A.two]; omega) hn hv)
  clear E A hn hv ho
  go_enter Tryz.func92, Tryz.ntmps92
  go_wp2_with fail
  go_at_call 151
  refine HS.out.mono ?_
  rintro e w1 ⟨rfl, F1⟩
  have HF1 := Lib.hid F1
  clear F1
  go_wp2_with fail
  go_at_call 150
  refine (HZ.out _ HF1.out).mono ?_
  rintro e w2 ⟨rfl, o2, F2, E2⟩
  have HF2 := Lib.hid ((HF1.out.none r (r + 29)).trans F2)
  have HE2 := Lib.hid E2
  clear F2 E2
  go_wp2_with fail
  go_end0
  exact ⟨rfl, o2, HF2.out, HE2.out⟩
set_option maxRecDepth 100000 in
theorem keep_new {o : Own} {r p : Nat} {S : EngS} {h : Int} {x y : Ob} {s t : Int} {c : Nat} (n : Int) (w : World) (hr : 1 ≤ r) (ho : Owned o w) (E : EngRep o w r p S) (A : StoreAt S h x s c) (hn : in64 n) (hv : (x.val 0).1 ≠ 3) (hts : s ≠ t) (ht : S.ob t = some y) (ht64 : in64 t) :
    Calls Tryz.prog 92 #[.pointer (some ⟨p, 0, none⟩), .int .i64 h, .int .i64 t, .int .i64 n] w (EngDo o w r p (wrA (setA S h x 1 3 t) h (setVal x 1 (3, t)) 0 1 n) (.tuple #[])) := by
  have HS := Lib.hid ((lstore w ho E A).mono fun e w' (hh : _ ∧ Below w.heap.size w w') => (⟨hh.1, (Fr.refl (lo := 0) (hi := 0) ho).below hh.2⟩ : e = .returned (.tuple #[.int .i64 s, .int .i64 (c : Nat)]) ∧ Fr 0 0 o o w w'))
  have HST := Lib.hid (fun (w1 : World) (F : Fr 0 0 o o w w1) => show Calls Tryz.prog 68 #[.pointer (some ⟨p, 0, none⟩), .int .i64 h, .int .i64 1, valV 3 t] w1 fun e w' => e = .returned (.int .i64 0) ∧ ∃ o', Fr r (r + 29) o o' w w' ∧ EngRep o' w' r p (setA S h x 1 3 t) from
    (rset h 1 x 1 3 t w1 hr F.fresh (E.keep F (.inr (Nat.zero_le _))) A.ob rfl (by rw [A.two]; omega) (by omega) ht64 (fun _ => ⟨y, ht⟩) (fun _ e => by
      rcases Nat.eq_zero_or_pos c with h0 | h0
      · exact absurd e (A.none_ h0).1
      · obtain ⟨h1, z, h2, _⟩ := A.some_ h0
        exact ⟨z, by rw [h1]; exact h2⟩)).mono fun e w' hh => by
      obtain ⟨h1, o', F2, E'⟩ := hh
      exact ⟨h1, o', (F.none r (r + 29)).trans F2, E'⟩)
  have HZ := Lib.hid (fun (o1 : Own) (w1 : World) (ho1 : Owned o1 w1) (E1 : EngRep o1 w1 r p (setA S h x 1 3 t)) => lsized h (setVal x 1 (3, t)) n w1 hr ho1 E1 (by rw [setA_ob]; exact if_pos rfl) (by show 0 < x.cells; rw [A.two]; omega) hn (by show (updF x.val 1 (3, t) 0).1 ≠ 3; unfold updF; rw [if_neg (by omega)]; exact hv))
  have hne : (s != t) = true := by simpa using hts
  clear E A hn hv ho ht ht64 hts
  go_enter Tryz.func92, Tryz.ntmps92
  go_wp2_with fail
  go_at_call 151
  refine HS.out.mono ?_
  rintro e w1 ⟨rfl, F1⟩
  have HF1 := Lib.hid F1
  clear F1
  go_wp2_with fail
  go_at_call 68
  refine (HST.out _ HF1.out).mono ?_
  rintro e w2 ⟨rfl, o2, F2, E2⟩
  have HF2 := Lib.hid F2
  have HE2 := Lib.hid E2
  clear F2 E2
  go_wp2_with fail
  go_at_call 150
  refine (HZ.out o2 _ HF2.out.fresh HE2.out).mono ?_
  rintro e w3 ⟨rfl, o3, F3, E3⟩
  have HF3 := Lib.hid (HF2.out.trans F3)
  have HE3 := Lib.hid E3
  clear F3 E3
  go_wp2_with fail
  go_end0
  exact ⟨rfl, o3, HF3.out, HE3.out⟩
/-- A list: its length, its store. -/
structure ListAt (S : EngS) (h : Int) (x : Ob) (s : Int) (c n : Nat) : Prop where
  st : StoreAt S h x s c
  kind : x.kind = 2
  len : x.val 0 = (1, (n : Int))
  nc : n ≤ c
  c4 : c ≤ 4000
set_option maxRecDepth 100000 in
theorem llen {o : Own} {r p : Nat} {S : EngS} {h : Int} {x : Ob} {s : Int} {c n : Nat} (w : World) (ho : Owned o w) (E : EngRep o w r p S) (A : ListAt S h x s c n) :
    Calls Tryz.prog 34 #[.pointer (some ⟨p, 0, none⟩), .int .i64 h] w fun e w' => e = .returned (.tuple #[.int .i64 (n : Nat), .int .i64 0]) ∧ Below w.heap.size w w' := by
  have H := Lib.hid (show Calls Tryz.prog 93 #[.pointer (some ⟨p, 0, none⟩), .int .i64 2, .int .i64 h] w fun e w' => e = .returned (.tuple #[.int .i64 (n : Nat), .int .i64 0]) ∧ Below w.heap.size w w' from by
    have := lsize h x 2 w ho E A.st.ob (by rw [A.st.two]; omega) (by rw [A.kind]; rfl)
    rw [A.len] at this; exact this)
  clear E A ho
  go_enter Tryz.func34, Tryz.ntmps34
  go_wp2_with fail
  go_at_call 93
  refine H.out.mono ?_
  rintro e w1 ⟨rfl, hb⟩
  have HB := Lib.hid hb
  clear hb
  go_wp2_with fail
  go_ret2
  exact ⟨rfl, HB.out⟩
end Go.Proofs.YtlpklloagaccoaaGreat
namespace Go.Proofs.YtlpklloagaccoaaGreat
open Go.RowKit
set_option linter.unusedVariables false

theorem rright {o : Own} {r p : Nat} {S : EngS} (q : Nat) (n : Int) (w : World) (ho : Owned o w) (E : EngRep o w r p S) (hq : q ≤ 3) (hv : q = 3 → ∃ y, S.ob n = some y) :
    Calls Tryz.prog 90 #[.pointer (some ⟨p, 0, none⟩), valV q n] w fun e w' => e = .returned (.bool true) ∧ Below w.heap.size w w' := by
  obtain ⟨ps, pt, pz, pp, bw, bk, v, E⟩ := E
  by_cases h3 : q = 3
  · obtain ⟨y, hy⟩ := hv h3
    subst h3
    exact xright_ref n y w ho E hy
  · exact xright_val q n w ho E (by omega)
def vX (q n : Int) : Obj := .cells #[.int .i64 q, .int .i64 n] 30
/-- A value that may stand in a cell. -/
structure ValOk (S : EngS) (q : Nat) (v : Int) : Prop where
  q3 : q ≤ 3
  n64 : in64 v
  ref : q = 3 → ∃ y, S.ob v = some y
section
variable {o : Own} {r p : Nat} {S : EngS} {h : Int} {x : Ob} {s : Int} {c n : Nat}
set_option maxRecDepth 100000 in
set_option maxHeartbeats 1000000 in
theorem push_has {y : Ob} (q : Nat) (v : Int) (w : World) (hr : 1 ≤ r) (ho : Owned o w) (E : EngRep o w r p S) (A : ListAt S h x s c n) (hn : n < c) (hy : S.ob s = some y) (hyc : y.cells = c) (hhs : h ≠ s) (V : ValOk S q v) (hold : (y.val n).1 ≠ 3) :
    Calls Tryz.prog 29 #[.pointer (some ⟨p, 0, none⟩), .int .i64 h, valV q v] w (EngDo o w r p (wrA (setA S s y n q v) h x 0 1 ((n : Int) + 1)) (.int .i64 0)) := by
  have hc4 := A.c4
  have HL := Lib.hid (fun (w1 : World) (G : Grew o w (vX q v) w1) => (llen w1 G.fr.fresh (E.keep G.fr (.inr (Nat.zero_le _))) A).mono fun e w' (hh : _ ∧ Below w1.heap.size w1 w') => (⟨hh.1, G.below hh.2⟩ : e = .returned (.tuple #[.int .i64 (n : Nat), .int .i64 0]) ∧ Grew o w (vX q v) w'))
  have HR := Lib.hid (fun (w1 : World) (G : Grew o w (vX q v) w1) => (rright q v w1 G.fr.fresh (E.keep G.fr (.inr (Nat.zero_le _))) V.q3 V.ref).mono fun e w' (hh : _ ∧ Below w1.heap.size w1 w') => (⟨hh.1, G.below hh.2⟩ : e = .returned (.bool true) ∧ Grew o w (vX q v) w'))
  have HRm := Lib.hid (fun (w1 : World) (G : Grew o w (vX q v) w1) => (room_has ((n : Int) + 1) 4 w1 G.fr.fresh (E.keep G.fr (.inr (Nat.zero_le _))) A.st (by omega)).mono fun e w' (hh : _ ∧ Below w1.heap.size w1 w') => (⟨hh.1, G.below hh.2⟩ : e = .returned (.tuple #[.int .i64 s, .int .i64 0]) ∧ Grew o w (vX q v) w'))
  have HST := Lib.hid (fun (w1 : World) (G : Grew o w (vX q v) w1) => show Calls Tryz.prog 68 #[.pointer (some ⟨p, 0, none⟩), .int .i64 s, .int .i64 (n : Nat), valV q v] w1 fun e w' => e = .returned (.int .i64 0) ∧ ∃ o', Fr r (r + 29) o o' w w' ∧ EngRep o' w' r p (setA S s y n q v) from
    (rset s n y n q v w1 hr G.fr.fresh (E.keep G.fr (.inr (Nat.zero_le _))) hy rfl (by omega) V.q3 V.n64 V.ref (fun _ e => absurd e hold)).mono fun e w' hh => by
      obtain ⟨h1, o', F2, E'⟩ := hh
      exact ⟨h1, o', (G.fr.none r (r + 29)).trans F2, E'⟩)
  have hSt : StoreAt (setA S s y n q v) h x s c := by
    refine ⟨?_, A.st.two, fun h0 => by omega, fun h0 => ⟨(A.st.some_ h0).1, setVal y n (q, v), ?_, hyc⟩⟩
    · rw [setA_ob]; unfold updI; rw [if_neg hhs]; exact A.st.ob
    · rw [setA_ob]; exact if_pos rfl
  have HKp := Lib.hid (fun (o1 : Own) (w1 : World) (ho1 : Owned o1 w1) (E1 : EngRep o1 w1 r p (setA S s y n q v)) => keep_same ((n : Int) + 1) w1 hr ho1 E1 hSt (by unfold in64; omega) (by rw [A.len]; show (1 : Nat) ≠ 3; omega))
  have HO := Lib.hid ho
  have n0 : (0 : Int) ≤ (n : Int) := by omega
  have n4 : (n : Int) < 4000 := by omega
  have hnot : ∀ (x : Bool) (w : World), (Op.unary .not (.bool x)).run Tryz.prog w = .ok (.bool (!x)) w := fun _ _ => rfl
  clear E A hy V hSt ho hold hn hyc hhs hc4
  go_enter Tryz.func29, Tryz.ntmps29
  go_wp2_with fail
  go_at_call 34
  refine (HL.out _ (by repeat (first | exact Grew.base HO.out _ | refine Grew.drew ?_ | refine Grew.alloc ?_ _))).mono ?_
  rintro e w1 ⟨rfl, G1⟩
  have X1 := G1.x_
  unfold vX at X1
  have x0 : w1.cell? ⟨w.heap.size, 0, none⟩ = some (.int .i64 (q : Nat)) := by simp [World.cell?, X1]
  have x1 : w1.cell? ⟨w.heap.size, 1, none⟩ = some (.int .i64 v) := by simp [World.cell?, X1]
  have HG1 := Lib.hid G1
  clear G1 X1
  go_wp2_with fail
  go_at_call 90
  refine (HR.out _ HG1.out).mono ?_
  rintro e w2 ⟨rfl, G2⟩
  have HG2 := Lib.hid G2
  clear G2
  go_wp2_with fail
  go_at_call 91
  refine (HRm.out _ HG2.out).mono ?_
  rintro e w3 ⟨rfl, G3⟩
  have X3 := G3.x_
  unfold vX at X3
  have y0 : w3.cell? ⟨w.heap.size, 0, none⟩ = some (.int .i64 (q : Nat)) := by simp [World.cell?, X3]
  have y1 : w3.cell? ⟨w.heap.size, 1, none⟩ = some (.int .i64 v) := by simp [World.cell?, X3]
  have HG3 := Lib.hid G3
  clear G3 X3
  go_wp2_with fail
  go_at_call 68
  refine (HST.out _ HG3.out).mono ?_
  rintro e w4 ⟨rfl, o4, F4, E4⟩
  have HF4 := Lib.hid F4
  have HE4 := Lib.hid E4
  clear F4 E4
  go_wp2_with fail
  go_at_call 92
  refine (HKp.out o4 _ HF4.out.fresh HE4.out).mono ?_
  rintro e w5 ⟨rfl, o5, F5, E5⟩
  have HF5 := Lib.hid (HF4.out.trans F5)
  have HE5 := Lib.hid E5
  clear F5 E5
  go_wp2_with fail
  go_ret
  exact ⟨rfl, o5, HF5.out, HE5.out⟩
/-- Behind a push for which there is a new store. -/
def pushNewA (S : EngS) (L' : Al) (t : Nat) (f : Nat → Nat × Int) (c least : Nat) (h : Int) (x : Ob) (q : Nat) (v : Int) : EngS :=
  wrA (setA (setA (copyA (makeA S L' t 4 (moreN c least) 0) (t : Int) (newOb 4 (moreN c least) 0) f c) (t : Int) (withVals (newOb 4 (moreN c least) 0) f c) c q v) h x 1 3 (t : Int)) h (setVal x 1 (3, (t : Int))) 0 1 ((c : Int) + 1)
theorem copy_ob {L' : Al} {t more : Nat} {f : Nat → Nat × Int} {m : Int} (hm : m ≠ (t : Int)) (i : Nat) : (copyA (makeA S L' t 4 more 0) (t : Int) (newOb 4 more 0) f i).ob m = S.ob m := by
  rw [copyA_ob (show (makeA S L' t 4 more 0).ob (t : Int) = _ from if_pos rfl)]
  unfold updI
  rw [if_neg hm]
  show updI S.ob _ _ m = _
  unfold updI
  rw [if_neg hm]
set_option maxRecDepth 100000 in
set_option maxHeartbeats 1000000 in
theorem push_new {y : Ob} (q : Nat) (v : Int) (L' : Al) (t : Nat) (w : World) (hr : 1 ≤ r) (ho : Owned o w) (E : EngRep o w r p S) (A : ListAt S h x s c c) (hc : c < 4000) (hy : 0 < c → S.ob s = some y ∧ y.cells = c) (V : ValOk S q v)
    (hvals : ∀ i, i < c → (y.val i).1 ≤ 3 ∧ in64 (y.val i).2 ∧ ((y.val i).1 = 3 → ∃ z, S.ob (y.val i).2 = some z)) (hok : S.L.ok = true) (hT : tookL S.L (wordsN (moreN c 4) 0) = some (L', t)) :
    Calls Tryz.prog 29 #[.pointer (some ⟨p, 0, none⟩), .int .i64 h, valV q v] w fun e w' => EngDo o w r p (pushNewA S L' t y.val c 4 h x q v) (.int .i64 0) e w' ∧ S.ob (t : Int) = none ∧ 64 ≤ t ∧ t < 262144 ∧ L'.ok = true ∧ L'.n = S.L.n := by
  have hmc : c < moreN c 4 := by unfold moreN; split <;> omega
  have HL := Lib.hid (fun (w1 : World) (G : Grew o w (vX q v) w1) => (llen w1 G.fr.fresh (E.keep G.fr (.inr (Nat.zero_le _))) A).mono fun e w' (hh : _ ∧ Below w1.heap.size w1 w') => (⟨hh.1, G.below hh.2⟩ : e = .returned (.tuple #[.int .i64 (c : Nat), .int .i64 0]) ∧ Grew o w (vX q v) w'))
  have HR := Lib.hid (fun (w1 : World) (G : Grew o w (vX q v) w1) => (rright q v w1 G.fr.fresh (E.keep G.fr (.inr (Nat.zero_le _))) V.q3 V.ref).mono fun e w' (hh : _ ∧ Below w1.heap.size w1 w') => (⟨hh.1, G.below hh.2⟩ : e = .returned (.bool true) ∧ Grew o w (vX q v) w'))
  have HRm := Lib.hid (fun (w1 : World) (G : Grew o w (vX q v) w1) => show Calls Tryz.prog 91 #[.pointer (some ⟨p, 0, none⟩), .int .i64 h, .int .i64 ((c : Int) + 1), .int .i64 4] w1 fun e w' => e = .returned (.tuple #[.int .i64 (t : Nat), .int .i64 0]) ∧ (S.ob (t : Int) = none ∧ 64 ≤ t ∧ t < 262144 ∧ L'.ok = true ∧ L'.n = S.L.n) ∧ ∃ o', Fr r (r + 29) o o' w w' ∧ EngRep o' w' r p (copyA (makeA S L' t 4 (moreN c 4) 0) (t : Int) (newOb 4 (moreN c 4) 0) y.val c) ∧ w'.heap[w.heap.size]? = some (vX q v) ∧ o' w.heap.size = 0 from
    (room_new ((c : Int) + 1) 4 L' t w1 hr G.fr.fresh (E.keep G.fr (.inr (Nat.zero_le _))) A.st (by omega) (by omega) (by omega) (by omega) hok hT hy hvals).mono fun e w' hh => by
      obtain ⟨⟨h1, o', F2, E'⟩, h2⟩ := hh
      have hox : o w.heap.size = 0 := ho _ (Nat.le_refl _)
      have U := F2.unown (by omega) G.x_ hox
      exact ⟨h1, h2, o', (G.fr.none r (r + 29)).trans F2, E', U.1, U.2⟩)
  have HST := Lib.hid (fun (o1 : Own) (w1 : World) (hnew : S.ob (t : Int) = none) (ho1 : Owned o1 w1) (E1 : EngRep o1 w1 r p (copyA (makeA S L' t 4 (moreN c 4) 0) (t : Int) (newOb 4 (moreN c 4) 0) y.val c)) => show Calls Tryz.prog 68 #[.pointer (some ⟨p, 0, none⟩), .int .i64 (t : Nat), .int .i64 (c : Nat), valV q v] w1 (EngDo o1 w1 r p (setA (copyA (makeA S L' t 4 (moreN c 4) 0) (t : Int) (newOb 4 (moreN c 4) 0) y.val c) (t : Int) (withVals (newOb 4 (moreN c 4) 0) y.val c) c q v) (.int .i64 0)) from by
    have hob := copyA_ob (S := makeA S L' t 4 (moreN c 4) 0) (t := (t : Int)) (xt := newOb 4 (moreN c 4) 0) (f := y.val) (if_pos rfl) c
    refine rset (t : Int) (c : Int) (withVals (newOb 4 (moreN c 4) 0) y.val c) c q v w1 hr ho1 E1 (by rw [hob]; exact if_pos rfl) rfl hmc V.q3 V.n64 (fun e => ?_) (fun _ e => ?_)
    · obtain ⟨z, hz⟩ := V.ref e
      exact ⟨z, by rw [copy_ob (fun e => by rw [e, hnew] at hz; cases hz)]; exact hz⟩
    · exfalso
      have e2 : ((withVals (newOb 4 (moreN c 4) 0) y.val c).val c).1 = 0 := by
        show (if c < c then y.val c else (0, 0)).1 = 0
        rw [if_neg (by omega)]
      omega)
  have HKp := Lib.hid (fun (o1 : Own) (w1 : World) (hnew : S.ob (t : Int) = none) (h64 : 64 ≤ t) (h26 : t < 262144) (ho1 : Owned o1 w1) (E1 : EngRep o1 w1 r p (setA (copyA (makeA S L' t 4 (moreN c 4) 0) (t : Int) (newOb 4 (moreN c 4) 0) y.val c) (t : Int) (withVals (newOb 4 (moreN c 4) 0) y.val c) c q v)) => show Calls Tryz.prog 92 #[.pointer (some ⟨p, 0, none⟩), .int .i64 h, .int .i64 (t : Nat), .int .i64 ((c : Int) + 1)] w1 (EngDo o1 w1 r p (pushNewA S L' t y.val c 4 h x q v) (.tuple #[])) from by
    have hht : h ≠ (t : Int) := fun e => by have := A.st.ob; rw [e, hnew] at this; cases this
    have hob1 : ∀ m, m ≠ (t : Int) → (setA (copyA (makeA S L' t 4 (moreN c 4) 0) (t : Int) (newOb 4 (moreN c 4) 0) y.val c) (t : Int) (withVals (newOb 4 (moreN c 4) 0) y.val c) c q v).ob m = S.ob m := fun m hm => by
      rw [setA_ob]; unfold updI; rw [if_neg hm]; exact copy_ob hm c
    have hst : s ≠ (t : Int) := by
      rcases Nat.eq_zero_or_pos c with h0 | h0
      · have := (A.st.none_ h0).2; omega
      · intro e
        have := (hy h0).1
        rw [e, hnew] at this; cases this
    have hSt : StoreAt (setA (copyA (makeA S L' t 4 (moreN c 4) 0) (t : Int) (newOb 4 (moreN c 4) 0) y.val c) (t : Int) (withVals (newOb 4 (moreN c 4) 0) y.val c) c q v) h x s c :=
      ⟨by rw [hob1 h hht]; exact A.st.ob, A.st.two, A.st.none_, fun h0 => ⟨(A.st.some_ h0).1, by rw [hob1 s hst]; exact (A.st.some_ h0).2⟩⟩
    exact keep_new ((c : Int) + 1) w1 hr ho1 E1 hSt (by unfold in64; omega) (by rw [A.len]; show (1 : Nat) ≠ 3; omega) hst (by rw [setA_ob]; exact if_pos rfl) (by unfold in64; omega))
  have HO := Lib.hid ho
  have n0 : (0 : Int) ≤ (c : Int) := by omega
  have n4 : (c : Int) < 4000 := by omega
  have hnot : ∀ (x : Bool) (w : World), (Op.unary .not (.bool x)).run Tryz.prog w = .ok (.bool (!x)) w := fun _ _ => rfl
  clear E A hy V hvals ho hc hT hmc
  go_enter Tryz.func29, Tryz.ntmps29
  go_wp2_with fail
  go_at_call 34
  refine (HL.out _ (by repeat (first | exact Grew.base HO.out _ | refine Grew.drew ?_ | refine Grew.alloc ?_ _))).mono ?_
  rintro e w1 ⟨rfl, G1⟩
  have X1 := G1.x_
  unfold vX at X1
  have x0 : w1.cell? ⟨w.heap.size, 0, none⟩ = some (.int .i64 (q : Nat)) := by simp [World.cell?, X1]
  have x1 : w1.cell? ⟨w.heap.size, 1, none⟩ = some (.int .i64 v) := by simp [World.cell?, X1]
  have HG1 := Lib.hid G1
  clear G1 X1
  go_wp2_with fail
  go_at_call 90
  refine (HR.out _ HG1.out).mono ?_
  rintro e w2 ⟨rfl, G2⟩
  have HG2 := Lib.hid G2
  clear G2
  go_wp2_with fail
  go_at_call 91
  refine (HRm.out _ HG2.out).mono ?_
  rintro e w3 ⟨rfl, hf, o3, F3, E3, X3, O3⟩
  unfold vX at X3
  have y0 : w3.cell? ⟨w.heap.size, 0, none⟩ = some (.int .i64 (q : Nat)) := by simp [World.cell?, X3]
  have y1 : w3.cell? ⟨w.heap.size, 1, none⟩ = some (.int .i64 v) := by simp [World.cell?, X3]
  have HFF := Lib.hid hf
  have HF3 := Lib.hid F3
  have HE3 := Lib.hid E3
  clear hf F3 E3 X3 O3
  go_wp2_with fail
  go_at_call 68
  refine (HST.out o3 _ HFF.out.1 HF3.out.fresh HE3.out).mono ?_
  rintro e w4 ⟨rfl, o4, F4, E4⟩
  have HF4 := Lib.hid (HF3.out.trans F4)
  have HE4 := Lib.hid E4
  clear F4 E4
  go_wp2_with fail
  go_at_call 92
  refine (HKp.out o4 _ HFF.out.1 HFF.out.2.1 HFF.out.2.2.1 HF4.out.fresh HE4.out).mono ?_
  rintro e w5 ⟨rfl, o5, F5, E5⟩
  have HF5 := Lib.hid (HF4.out.trans F5)
  have HE5 := Lib.hid E5
  clear F5 E5
  go_wp2_with fail
  go_ret
  exact ⟨⟨rfl, o5, HF5.out, HE5.out⟩, HFF.out⟩
end
end Go.Proofs.YtlpklloagaccoaaGreat
namespace Go.Proofs.YtlpklloagaccoaaGreat
open Go.RowKit
set_option linter.unusedVariables false

/-- Behind the making of a list. -/
def newListA (S : EngS) (L' : Al) (a : Nat) : EngS := wrA (makeA S L' a 2 2 0) (a : Int) (newOb 2 2 0) 0 1 0
section
variable {o : Own} {r p : Nat} {S : EngS}
set_option maxRecDepth 100000 in
theorem lmade (L' : Al) (a : Nat) (w : World) (hr : 1 ≤ r) (ho : Owned o w) (E : EngRep o w r p S) (hok : S.L.ok = true) (hT : tookL S.L (wordsN 2 0) = some (L', a)) :
    Calls Tryz.prog 89 #[.pointer (some ⟨p, 0, none⟩), .int .i64 2] w fun e w' => EngDo o w r p (newListA S L' a) (.tuple #[.int .i64 (a : Nat), .int .i64 0]) e w' ∧ S.ob (a : Int) = none ∧ 64 ≤ a ∧ a < 262144 ∧ L'.ok = true ∧ L'.n = S.L.n := by
  have HM := Lib.hid (rmake 2 2 0 2 2 0 rfl rfl rfl L' a w ho E hok (by omega) (by omega) (by omega) hT)
  have HZ := Lib.hid (fun (o1 : Own) (w1 : World) (ho1 : Owned o1 w1) (E1 : EngRep o1 w1 r p (makeA S L' a 2 2 0)) => lsized (a : Int) (newOb 2 2 0) 0 w1 hr ho1 E1 (if_pos rfl) (by show 0 < 2; omega) (by unfold in64; omega) (by show (0 : Nat) ≠ 3; omega))
  clear E hT hok ho
  go_enter Tryz.func89, Tryz.ntmps89
  go_wp2_with fail
  go_at_call 66
  refine HM.out.mono ?_
  rintro e w1 ⟨⟨rfl, o1, F1, E1⟩, hf⟩
  have HF1 := Lib.hid F1
  have HE1 := Lib.hid E1
  have HFF := Lib.hid hf
  clear F1 E1 hf
  go_wp2_with fail
  go_at_call 150
  refine (HZ.out o1 _ HF1.out.fresh HE1.out).mono ?_
  rintro e w2 ⟨rfl, o2, F2, E2⟩
  have HF2 := Lib.hid (HF1.out.trans F2)
  have HE2 := Lib.hid E2
  clear F2 E2
  go_wp2_with fail
  go_ret2
  exact ⟨⟨rfl, o2, HF2.out, HE2.out⟩, HFF.out⟩
set_option maxRecDepth 100000 in
theorem lnew (L' : Al) (a : Nat) (w : World) (hr : 1 ≤ r) (ho : Owned o w) (E : EngRep o w r p S) (hok : S.L.ok = true) (hT : tookL S.L (wordsN 2 0) = some (L', a)) :
    Calls Tryz.prog 28 #[.pointer (some ⟨p, 0, none⟩)] w fun e w' => EngDo o w r p (newListA S L' a) (.tuple #[.int .i64 (a : Nat), .int .i64 0]) e w' ∧ S.ob (a : Int) = none ∧ 64 ≤ a ∧ a < 262144 ∧ L'.ok = true ∧ L'.n = S.L.n := by
  have HM := Lib.hid (lmade L' a w hr ho E hok hT)
  clear E hT hok ho
  go_enter Tryz.func28, Tryz.ntmps28
  go_wp2_with fail
  go_at_call 89
  refine HM.out.mono ?_
  rintro e w1 ⟨⟨rfl, hE⟩, hf⟩
  have HE1 := Lib.hid hE
  have HFF := Lib.hid hf
  clear hE hf
  go_wp2_with fail
  go_ret2
  exact ⟨⟨rfl, HE1.out⟩, HFF.out⟩
variable {h : Int} {x : Ob} {s : Int} {c n : Nat}
/-- What 'at' answers. -/
def atA (s : Int) (n : Nat) (i : Int) : Value := if 0 ≤ i ∧ i < n then .tuple #[.int .i64 s, .int .i64 0] else .tuple #[.int .i64 0, .int .i64 6]
set_option maxRecDepth 100000 in
theorem lat (i : Int) (w : World) (ho : Owned o w) (E : EngRep o w r p S) (A : ListAt S h x s c n) :
    Calls Tryz.prog 94 #[.pointer (some ⟨p, 0, none⟩), .int .i64 h, .int .i64 i] w fun e w' => e = .returned (atA s n i) ∧ Below w.heap.size w w' := by
  have HL := Lib.hid (llen w ho E A)
  have HS := Lib.hid (fun (w1 : World) (F : Fr 0 0 o o w w1) => lstore w1 F.fresh (E.keep F (.inr (Nat.zero_le _))) A.st)
  have HO := Lib.hid ho
  clear E A ho
  by_cases h0 : 0 ≤ i
  · by_cases hn : i < (n : Int)
    · rw [show atA s n i = .tuple #[.int .i64 s, .int .i64 0] from if_pos ⟨h0, hn⟩]
      have h0' : ¬ i < 0 := by omega
      have hn' : ¬ (n : Int) ≤ i := by omega
      go_enter Tryz.func94, Tryz.ntmps94
      go_wp2_with fail
      go_at_call 34
      refine HL.out.mono ?_
      rintro e w1 ⟨rfl, hb⟩
      have HB := Lib.hid hb
      have HF := Lib.hid ((Fr.refl (lo := 0) (hi := 0) HO.out).below hb)
      clear hb
      go_wp2_with fail
      go_at_call 151
      refine (HS.out _ HF.out).mono ?_
      rintro e w2 ⟨rfl, hb⟩
      have HB2 := Lib.hid (HB.out.trans (hb.mono HB.out.size))
      clear hb
      go_wp2_with fail
      go_ret2
      exact ⟨rfl, HB2.out⟩
    · rw [show atA s n i = .tuple #[.int .i64 0, .int .i64 6] from if_neg (by omega)]
      have hn' : (n : Int) ≤ i := by omega
      have h0' : ¬ i < 0 := by omega
      go_enter Tryz.func94, Tryz.ntmps94
      go_wp2_with fail
      go_at_call 34
      refine HL.out.mono ?_
      rintro e w1 ⟨rfl, hb⟩
      have HB := Lib.hid hb
      clear hb
      go_wp2_with fail
      go_ret2
      exact ⟨rfl, HB.out⟩
  · rw [show atA s n i = .tuple #[.int .i64 0, .int .i64 6] from if_neg (by omega)]
    have h0' : i < 0 := by omega
    go_enter Tryz.func94, Tryz.ntmps94
    go_wp2_with fail
    go_at_call 34
    refine HL.out.mono ?_
    rintro e w1 ⟨rfl, hb⟩
    have HB := Lib.hid hb
    clear hb
    go_wp2_with fail
    go_ret2
    exact ⟨rfl, HB.out⟩
end
end Go.Proofs.YtlpklloagaccoaaGreat
