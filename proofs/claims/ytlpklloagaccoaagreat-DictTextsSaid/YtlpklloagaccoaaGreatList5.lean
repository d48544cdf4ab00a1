/- What a list holds is told and written, and a push for which there is no memory (list.Get, Put, Push). Conditions: the engine is as one that was made; the list is one. A list and what it holds, behind every push. Conditions: the engine is as one that was made; the list is one. A list that was made, and reading and writing of what it holds. Conditions: the engine is as one that was made; the list is one. -/
import Derived.Test.YtlpklloagaccoaaGreatList2
import Derived.Outline
namespace Go.Proofs.YtlpklloagaccoaaGreat
open Go.RowKit
set_option linter.unusedVariables false

section
variable {o : Own} {r p : Nat} {S : EngS} {h : Int} {x : Ob} {s : Int} {c n : Nat}
set_option maxRecDepth 100000 in
theorem lget {y : Ob} (i : Nat) (w : World) (ho : Owned o w) (E : EngRep o w r p S) (A : ListAt S h x s c n) (hy : S.ob s = some y) (hyc : y.cells = c) (hi : i < n) :
    Calls Tryz.prog 35 #[.pointer (some ⟨p, 0, none⟩), .int .i64 h, .int .i64 (i : Nat)] w fun e w' => e = .returned (.tuple #[valV (y.val i).1 (y.val i).2, .int .i64 0]) ∧ Below w.heap.size w w' := by
  have HA := Lib.hid (fun (w1 : World) (G : Grew o w (vX 0 0) w1) => (lat (i : Int) w1 G.fr.fresh (E.keep G.fr (.inr (Nat.zero_le _))) A).mono fun e w' (hh : _ ∧ Below w1.heap.size w1 w') => (⟨by rw [hh.1]; unfold atA; rw [if_pos ⟨by omega, by omega⟩], G.below hh.2⟩ : e = .returned (.tuple #[.int .i64 s, .int .i64 0]) ∧ Grew o w (vX 0 0) w'))
  have HC := Lib.hid (fun (w1 : World) (G : Grew o w (vX 0 0) w1) => show Calls Tryz.prog 30 #[.pointer (some ⟨p, 0, none⟩), .int .i64 s, .int .i64 (i : Nat)] w1 fun e w' => e = .returned (.tuple #[valV (y.val i).1 (y.val i).2, .int .i64 0]) ∧ Grew o w (vX 0 0) w' from
    (rcell s (i : Int) w1 G.fr.fresh (E.keep G.fr (.inr (Nat.zero_le _)))).mono fun e w' hh => ⟨by rw [← cellA_in hy rfl (by have := A.nc; omega)]; exact hh.1, G.below hh.2⟩)
  have HO := Lib.hid ho
  clear E A ho
  go_enter Tryz.func35, Tryz.ntmps35
  go_wp2_with fail
  go_at_call 94
  refine (HA.out _ (by repeat (first | exact Grew.base HO.out _ | refine Grew.drew ?_ | refine Grew.alloc ?_ _))).mono ?_
  rintro e w1 ⟨rfl, G1⟩
  have HG1 := Lib.hid G1
  clear G1
  go_wp2_with fail
  go_at_call 30
  refine (HC.out _ HG1.out).mono ?_
  rintro e w2 ⟨rfl, G2⟩
  have R1 := G2.x_
  unfold vX at R1
  have z0 : w2.frozen? ⟨w.heap.size, 0, none⟩ = false := by simp [World.frozen?, R1]
  have z1 : w2.frozen? ⟨w.heap.size, 1, none⟩ = false := by simp [World.frozen?, R1]
  have y0 : w2.cell? ⟨w.heap.size, 0, none⟩ = some (.int .i64 0) := by simp [World.cell?, R1]
  have y1 : w2.cell? ⟨w.heap.size, 1, none⟩ = some (.int .i64 0) := by simp [World.cell?, R1]
  have HB2 := Lib.hid G2.fr.below0
  clear R1 G2
  go_wp2_with fail
  refine bodyPost_ret (v := .tuple #[valV (y.val i).1 (y.val i).2, .int .i64 0]) ?_ rfl ⟨rfl, ?_⟩
  · simp [results, Tryz.results35, go_sem, y0, y1, valV]
  · exact ((HB2.out).setCell (Nat.le_refl _) _).setCell (Nat.le_refl _) _
set_option maxRecDepth 100000 in
theorem lget_no (i : Int) (w : World) (ho : Owned o w) (E : EngRep o w r p S) (A : ListAt S h x s c n) (hi : ¬ (0 ≤ i ∧ i < n)) :
    Calls Tryz.prog 35 #[.pointer (some ⟨p, 0, none⟩), .int .i64 h, .int .i64 i] w fun e w' => e = .returned (.tuple #[valV 0 0, .int .i64 6]) ∧ Below w.heap.size w w' := by
  have HA := Lib.hid (fun (w1 : World) (G : Grew o w (vX 0 0) w1) => (lat i w1 G.fr.fresh (E.keep G.fr (.inr (Nat.zero_le _))) A).mono fun e w' (hh : _ ∧ Below w1.heap.size w1 w') => (⟨by rw [hh.1]; unfold atA; rw [if_neg hi], G.below hh.2⟩ : e = .returned (.tuple #[.int .i64 0, .int .i64 6]) ∧ Grew o w (vX 0 0) w'))
  have HO := Lib.hid ho
  clear E A ho
  go_enter Tryz.func35, Tryz.ntmps35
  go_wp2_with fail
  go_at_call 94
  refine (HA.out _ (by repeat (first | exact Grew.base HO.out _ | refine Grew.drew ?_ | refine Grew.alloc ?_ _))).mono ?_
  rintro e w2 ⟨rfl, G2⟩
  have R1 := G2.x_
  unfold vX at R1
  have z0 : w2.frozen? ⟨w.heap.size, 0, none⟩ = false := by simp [World.frozen?, R1]
  have z1 : w2.frozen? ⟨w.heap.size, 1, none⟩ = false := by simp [World.frozen?, R1]
  have y0 : w2.cell? ⟨w.heap.size, 0, none⟩ = some (.int .i64 0) := by simp [World.cell?, R1]
  have y1 : w2.cell? ⟨w.heap.size, 1, none⟩ = some (.int .i64 0) := by simp [World.cell?, R1]
  have HB2 := Lib.hid G2.fr.below0
  clear R1 G2
  go_wp2_with fail
  refine bodyPost_ret (v := .tuple #[valV 0 0, .int .i64 6]) ?_ rfl ⟨rfl, ?_⟩
  · simp [results, Tryz.results35, go_sem, y0, y1, valV]
  · exact ((HB2.out).setCell (Nat.le_refl _) _).setCell (Nat.le_refl _) _
set_option maxRecDepth 100000 in
theorem lput {y : Ob} (i q : Nat) (v : Int) (w : World) (hr : 1 ≤ r) (ho : Owned o w) (E : EngRep o w r p S) (A : ListAt S h x s c n) (hy : S.ob s = some y) (hyc : y.cells = c) (hi : i < n) (V : ValOk S q v) (hold : (y.val i).1 = 3 → ∃ z, S.ob (y.val i).2 = some z) :
    Calls Tryz.prog 36 #[.pointer (some ⟨p, 0, none⟩), .int .i64 h, .int .i64 (i : Nat), valV q v] w (EngDo o w r p (setA S s y i q v) (.int .i64 0)) := by
  have HA := Lib.hid (fun (w1 : World) (G : Grew o w (vX q v) w1) => (lat (i : Int) w1 G.fr.fresh (E.keep G.fr (.inr (Nat.zero_le _))) A).mono fun e w' (hh : _ ∧ Below w1.heap.size w1 w') => (⟨by rw [hh.1]; unfold atA; rw [if_pos ⟨by omega, by omega⟩], G.below hh.2⟩ : e = .returned (.tuple #[.int .i64 s, .int .i64 0]) ∧ Grew o w (vX q v) w'))
  have HR := Lib.hid (fun (w1 : World) (G : Grew o w (vX q v) w1) => (rright q v w1 G.fr.fresh (E.keep G.fr (.inr (Nat.zero_le _))) V.q3 V.ref).mono fun e w' (hh : _ ∧ Below w1.heap.size w1 w') => (⟨hh.1, G.below hh.2⟩ : e = .returned (.bool true) ∧ Grew o w (vX q v) w'))
  have HST := Lib.hid (fun (w1 : World) (G : Grew o w (vX q v) w1) => show Calls Tryz.prog 68 #[.pointer (some ⟨p, 0, none⟩), .int .i64 s, .int .i64 (i : Nat), valV q v] w1 (EngDo o w r p (setA S s y i q v) (.int .i64 0)) from
    (rset s (i : Int) y i q v w1 hr G.fr.fresh (E.keep G.fr (.inr (Nat.zero_le _))) hy rfl (by have := A.nc; omega) V.q3 V.n64 V.ref (fun _ => hold)).mono fun e w' hh => by
      obtain ⟨h1, o', F2, E'⟩ := hh
      exact ⟨h1, o', (G.fr.none r (r + 29)).trans F2, E'⟩)
  have HO := Lib.hid ho
  have hnot : ∀ (x : Bool) (w : World), (Op.unary .not (.bool x)).run Tryz.prog w = .ok (.bool (!x)) w := fun _ _ => rfl
  clear E A hy V ho hold
  go_enter Tryz.func36, Tryz.ntmps36
  go_wp2_with fail
  go_at_call 94
  refine (HA.out _ (by repeat (first | exact Grew.base HO.out _ | refine Grew.drew ?_ | refine Grew.alloc ?_ _))).mono ?_
  rintro e w1 ⟨rfl, G1⟩
  have X1 := G1.x_
  unfold vX at X1
  have x0 : w1.cell? ⟨w.heap.size, 0, none⟩ = some (.int .i64 (q : Nat)) := by simp [World.cell?, X1]
  have x1 : w1.cell? ⟨w.heap.size, 1, none⟩ = some (.int .i64 v) := by simp [World.cell?, X1]
  have HG1 := Lib.hid G1
  clear G1 X1
  go_wp2_with fail
  go_at_call 90
  refine (HR.out _ HG1.out).mono ?_
  rintro e w2 ⟨rfl, G2⟩
  have X2 := G2.x_
  unfold vX at X2
  have y0 : w2.cell? ⟨w.heap.size, 0, none⟩ = some (.int .i64 (q : Nat)) := by simp [World.cell?, X2]
  have y1 : w2.cell? ⟨w.heap.size, 1, none⟩ = some (.int .i64 v) := by simp [World.cell?, X2]
  have HG2 := Lib.hid G2
  clear G2 X2
  go_wp2_with fail
  go_at_call 68
  refine (HST.out _ HG2.out).mono ?_
  rintro e w3 ⟨rfl, hE⟩
  have HE := Lib.hid hE
  clear hE
  go_wp2_with fail
  go_ret
  exact ⟨rfl, HE.out⟩
set_option maxRecDepth 100000 in
theorem lput_no (i : Int) (q : Nat) (v : Int) (w : World) (ho : Owned o w) (E : EngRep o w r p S) (A : ListAt S h x s c n) (hi : ¬ (0 ≤ i ∧ i < n)) (V : ValOk S q v) :
    Calls Tryz.prog 36 #[.pointer (some ⟨p, 0, none⟩), .int .i64 h, .int .i64 i, valV q v] w fun e w' => e = .returned (.int .i64 6) ∧ Fr 0 0 o o w w' := by
  have HA := Lib.hid (fun (w1 : World) (G : Grew o w (vX q v) w1) => (lat i w1 G.fr.fresh (E.keep G.fr (.inr (Nat.zero_le _))) A).mono fun e w' (hh : _ ∧ Below w1.heap.size w1 w') => (⟨by rw [hh.1]; unfold atA; rw [if_neg hi], G.below hh.2⟩ : e = .returned (.tuple #[.int .i64 0, .int .i64 6]) ∧ Grew o w (vX q v) w'))
  have HR := Lib.hid (fun (w1 : World) (G : Grew o w (vX q v) w1) => (rright q v w1 G.fr.fresh (E.keep G.fr (.inr (Nat.zero_le _))) V.q3 V.ref).mono fun e w' (hh : _ ∧ Below w1.heap.size w1 w') => (⟨hh.1, G.below hh.2⟩ : e = .returned (.bool true) ∧ Grew o w (vX q v) w'))
  have HO := Lib.hid ho
  have hnot : ∀ (x : Bool) (w : World), (Op.unary .not (.bool x)).run Tryz.prog w = .ok (.bool (!x)) w := fun _ _ => rfl
  clear E A V ho hi
  go_enter Tryz.func36, Tryz.ntmps36
  go_wp2_with fail
  go_at_call 94
  refine (HA.out _ (by repeat (first | exact Grew.base HO.out _ | refine Grew.drew ?_ | refine Grew.alloc ?_ _))).mono ?_
  rintro e w1 ⟨rfl, G1⟩
  have X1 := G1.x_
  unfold vX at X1
  have x0 : w1.cell? ⟨w.heap.size, 0, none⟩ = some (.int .i64 (q : Nat)) := by simp [World.cell?, X1]
  have x1 : w1.cell? ⟨w.heap.size, 1, none⟩ = some (.int .i64 v) := by simp [World.cell?, X1]
  have HG1 := Lib.hid G1
  clear G1 X1
  go_wp2_with fail
  go_at_call 90
  refine (HR.out _ HG1.out).mono ?_
  rintro e w2 ⟨rfl, G2⟩
  have HG2 := Lib.hid G2
  clear G2
  go_wp2_with fail
  go_ret
  exact ⟨rfl, HG2.out.fr⟩
set_option maxRecDepth 100000 in
theorem push_full (q : Nat) (v : Int) (w : World) (ho : Owned o w) (E : EngRep o w r p S) (A : ListAt S h x s c c) (hc : c < 4000) (V : ValOk S q v) (hok : S.L.ok = true) (hT : tookL S.L (wordsN (moreN c 4) 0) = none) :
    Calls Tryz.prog 29 #[.pointer (some ⟨p, 0, none⟩), .int .i64 h, valV q v] w (EngDo o w r p S (.int .i64 2)) := by
  have HL := Lib.hid (fun (w1 : World) (G : Grew o w (vX q v) w1) => (llen w1 G.fr.fresh (E.keep G.fr (.inr (Nat.zero_le _))) A).mono fun e w' (hh : _ ∧ Below w1.heap.size w1 w') => (⟨hh.1, G.below hh.2⟩ : e = .returned (.tuple #[.int .i64 (c : Nat), .int .i64 0]) ∧ Grew o w (vX q v) w'))
  have HR := Lib.hid (fun (w1 : World) (G : Grew o w (vX q v) w1) => (rright q v w1 G.fr.fresh (E.keep G.fr (.inr (Nat.zero_le _))) V.q3 V.ref).mono fun e w' (hh : _ ∧ Below w1.heap.size w1 w') => (⟨hh.1, G.below hh.2⟩ : e = .returned (.bool true) ∧ Grew o w (vX q v) w'))
  have HRm := Lib.hid (fun (w1 : World) (G : Grew o w (vX q v) w1) => show Calls Tryz.prog 91 #[.pointer (some ⟨p, 0, none⟩), .int .i64 h, .int .i64 ((c : Int) + 1), .int .i64 4] w1 fun e w' => e = .returned (.tuple #[.int .i64 0, .int .i64 2]) ∧ ∃ o', Fr r (r + 29) o o' w w' ∧ EngRep o' w' r p S from
    (room_full ((c : Int) + 1) 4 w1 G.fr.fresh (E.keep G.fr (.inr (Nat.zero_le _))) A.st (by omega) (by omega) (by omega) hok hT).mono fun e w' hh => by
      obtain ⟨h1, o', F2, E'⟩ := hh
      exact ⟨h1, o', (G.fr.none r (r + 29)).trans F2, E'⟩)
  have HO := Lib.hid ho
  have n0 : (0 : Int) ≤ (c : Int) := by omega
  have n4 : (c : Int) < 4000 := by omega
  have hnot : ∀ (x : Bool) (w : World), (Op.unary .not (.bool x)).run Tryz.prog w = .ok (.bool (!x)) w := fun _ _ => rfl
  clear E A V ho hc hT
  go_enter Tryz.func29, Tryz.ntmps29
  go_wp2_with fail
  go_at_call 34
  refine (HL.out _ (by repeat (first | exact Grew.base HO.out _ | refine Grew.drew ?_ | refine Grew.alloc ?_ _))).mono ?_
  rintro e w1 ⟨rfl, G1⟩
  have X1 := G1.x_
  unfold vX at X1
  have x0 : w1.cell? ⟨w.heap.size, 0, none⟩ = some (.int .i64 (q : Nat)) := by simp [World.cell?, X1]
  have x1 : w1.cell? ⟨w.heap.size, 1, none⟩ = some (.int .i64 v) := by simp [World.cell?, X1]
  have HG1 := Lib.hid G1
  clear G1 X1
  go_wp2_with fail
  go_at_call 90
  refine (HR.out _ HG1.out).mono ?_
  rintro e w2 ⟨rfl, G2⟩
  have HG2 := Lib.hid G2
  clear G2
  go_wp2_with fail
  go_at_call 91
  refine (HRm.out _ HG2.out).mono ?_
  rintro e w3 ⟨rfl, hE⟩
  have HE := Lib.hid hE
  clear hE
  go_wp2_with fail
  go_ret
  exact ⟨rfl, HE.out⟩
end
end Go.Proofs.YtlpklloagaccoaaGreat
namespace Go.Proofs.YtlpklloagaccoaaGreat
open Go.RowKit
set_option linter.unusedVariables false

/-- A list 'h' holds f 0, .., f (n-1) in a store 's' of 'c' cells. -/
structure LS (S : EngS) (h : Int) (f : Nat → Nat × Int) (n c : Nat) (s : Int) : Prop where
  ex : ∃ x, ListAt S h x s c n
  st : 0 < c → ∃ y, S.ob s = some y ∧ y.cells = c ∧ y.kind = 4 ∧ (∀ i, i < n → y.val i = f i) ∧ (∀ i, n ≤ i → i < c → (y.val i).1 = 0)
  hs : h ≠ s
  ok : S.L.ok = true
  vals : ∀ i, i < n → ValOk S (f i).1 (f i).2
theorem ValOk.more {S T : EngS} {q : Nat} {v : Int} (V : ValOk S q v) (h : ∀ m z, S.ob m = some z → ∃ z', T.ob m = some z') : ValOk T q v :=
  ⟨V.q3, V.n64, fun e => by obtain ⟨y, hy⟩ := V.ref e; exact h _ _ hy⟩
theorem updI_some {ob : Int → Option Ob} {k m : Int} {x z : Ob} (hz : ob m = some z) : ∃ z', updI ob k (some x) m = some z' := by
  unfold updI
  split
  · exact ⟨_, rfl⟩
  · exact ⟨_, hz⟩
section
variable {S : EngS} {h : Int} {f : Nat → Nat × Int} {n c : Nat} {s : Int}
theorem LS.has (A : LS S h f n c s) {x y : Ob} (B : ListAt S h x s c n) (hy : S.ob s = some y) (hyc : y.cells = c) (hk : y.kind = 4) (h1 : ∀ i, i < n → y.val i = f i) (h2 : ∀ i, n ≤ i → i < c → (y.val i).1 = 0) (hn : n < c) {q : Nat} {v : Int} (V : ValOk S q v) :
    LS (wrA (setA S s y n q v) h x 0 1 ((n : Int) + 1)) h (updF f n (q, v)) (n + 1) c s := by
  have hob : (wrA (setA S s y n q v) h x 0 1 ((n : Int) + 1)).ob = updI (updI S.ob s (some (setVal y n (q, v)))) h (some (setVal x 0 (1, (n : Int) + 1))) := by
    show updI _ _ _ = _
    rw [setA_ob]
  have hsh : s ≠ h := fun e => A.hs e.symm
  have obh : (wrA (setA S s y n q v) h x 0 1 ((n : Int) + 1)).ob h = some (setVal x 0 (1, (n : Int) + 1)) := by rw [hob]; exact if_pos rfl
  have obs : (wrA (setA S s y n q v) h x 0 1 ((n : Int) + 1)).ob s = some (setVal y n (q, v)) := by rw [hob]; unfold updI; rw [if_neg hsh, if_pos rfl]
  have hm : ∀ m z, S.ob m = some z → ∃ z', (wrA (setA S s y n q v) h x 0 1 ((n : Int) + 1)).ob m = some z' := fun m z hz => by
    rw [hob]
    obtain ⟨z1, hz1⟩ := updI_some (k := s) (x := setVal y n (q, v)) hz
    exact updI_some hz1
  have hst := B.st
  refine ⟨⟨setVal x 0 (1, (n : Int) + 1), ⟨⟨obh, hst.two, fun h0 => by omega, fun h0 => ⟨?_, _, obs, hyc⟩⟩, B.kind, ?_, by omega, B.c4⟩⟩, fun _ => ⟨_, obs, hyc, hk, fun i hi => ?_, fun i hi hc => ?_⟩, A.hs, ?_, fun i hi => ?_⟩
  · show updF x.val 0 (1, (n : Int) + 1) 1 = _
    unfold updF
    rw [if_neg (by omega)]
    exact (hst.some_ h0).1
  · show updF x.val 0 (1, (n : Int) + 1) 0 = _
    unfold updF
    rw [if_pos rfl]
    push_cast
    rfl
  · show updF y.val n (q, v) i = updF f n (q, v) i
    unfold updF
    split
    · rfl
    · exact h1 i (by omega)
  · show (updF y.val n (q, v) i).1 = 0
    unfold updF
    rw [if_neg (by omega)]
    exact h2 i (by omega) hc
  · show (setA S s y n q v).L.ok = true
    rw [setA_L]; exact A.ok
  · refine ValOk.more (S := S) ?_ hm
    unfold updF
    split
    · exact V
    · exact A.vals i (by omega)
theorem LS.grow (A : LS S h f c c s) {x y : Ob} (B : ListAt S h x s c c) (h1 : ∀ i, i < c → y.val i = f i) {L' : Al} {t : Nat} (hnew : S.ob (t : Int) = none) (hok : L'.ok = true) (hc : c < 4000) {q : Nat} {v : Int} (V : ValOk S q v) :
    LS (pushNewA S L' t y.val c 4 h x q v) h (updF f c (q, v)) (c + 1) (moreN c 4) (t : Int) := by
  have hmc : c < moreN c 4 ∧ moreN c 4 ≤ 4000 := by unfold moreN; split <;> omega
  have hht : h ≠ (t : Int) := fun e => by have := B.st.ob; rw [e, hnew] at this; cases this
  have hth : (t : Int) ≠ h := fun e => hht e.symm
  have hob : (pushNewA S L' t y.val c 4 h x q v).ob = updI (updI (updI (updI (updI S.ob (t : Int) (some (newOb 4 (moreN c 4) 0))) (t : Int) (some (withVals (newOb 4 (moreN c 4) 0) y.val c))) (t : Int) (some (setVal (withVals (newOb 4 (moreN c 4) 0) y.val c) c (q, v)))) h (some (setVal x 1 (3, (t : Int))))) h (some (setVal (setVal x 1 (3, (t : Int))) 0 (1, (c : Int) + 1))) := by
    unfold pushNewA
    show updI _ _ _ = _
    rw [setA_ob, setA_ob, copyA_ob (show (makeA S L' t 4 (moreN c 4) 0).ob (t : Int) = _ from if_pos rfl)]
    rfl
  have obh : (pushNewA S L' t y.val c 4 h x q v).ob h = some (setVal (setVal x 1 (3, (t : Int))) 0 (1, (c : Int) + 1)) := by rw [hob]; exact if_pos rfl
  have obs : (pushNewA S L' t y.val c 4 h x q v).ob (t : Int) = some (setVal (withVals (newOb 4 (moreN c 4) 0) y.val c) c (q, v)) := by rw [hob]; unfold updI; rw [if_neg hth, if_neg hth, if_pos rfl]
  have hm : ∀ m z, S.ob m = some z → ∃ z', (pushNewA S L' t y.val c 4 h x q v).ob m = some z' := fun m z hz => by
    rw [hob]
    obtain ⟨z1, hz1⟩ := updI_some (k := (t : Int)) (x := newOb 4 (moreN c 4) 0) hz
    obtain ⟨z2, hz2⟩ := updI_some (k := (t : Int)) (x := withVals (newOb 4 (moreN c 4) 0) y.val c) hz1
    obtain ⟨z3, hz3⟩ := updI_some (k := (t : Int)) (x := setVal (withVals (newOb 4 (moreN c 4) 0) y.val c) c (q, v)) hz2
    obtain ⟨z4, hz4⟩ := updI_some (k := h) (x := setVal x 1 (3, (t : Int))) hz3
    exact updI_some hz4
  have hst := B.st
  refine ⟨⟨_, ⟨⟨obh, hst.two, fun h0 => by omega, fun h0 => ⟨?_, _, obs, rfl⟩⟩, B.kind, ?_, by omega, hmc.2⟩⟩, fun _ => ⟨_, obs, rfl, rfl, fun i hi => ?_, fun i hi hc => ?_⟩, hht, ?_, fun i hi => ?_⟩
  · show updF (updF x.val 1 (3, (t : Int))) 0 (1, (c : Int) + 1) 1 = _
    unfold updF
    rw [if_neg (by omega), if_pos rfl]
  · show updF (updF x.val 1 (3, (t : Int))) 0 (1, (c : Int) + 1) 0 = _
    unfold updF
    rw [if_pos rfl]
    push_cast
    rfl
  · show updF (fun j => if j < c then y.val j else (0, 0)) c (q, v) i = updF f c (q, v) i
    unfold updF
    split
    · rfl
    · show (if i < c then y.val i else (0, 0)) = f i
      rw [if_pos (by omega)]; exact h1 i (by omega)
  · show (updF (fun j => if j < c then y.val j else (0, 0)) c (q, v) i).1 = 0
    unfold updF
    rw [if_neg (by omega)]
    show (if i < c then y.val i else (0, 0)).1 = 0
    rw [if_neg (by omega)]
  · show (setA (setA (copyA (makeA S L' t 4 (moreN c 4) 0) (t : Int) (newOb 4 (moreN c 4) 0) y.val c) (t : Int) (withVals (newOb 4 (moreN c 4) 0) y.val c) c q v) h x 1 3 (t : Int)).L.ok = true
    rw [setA_L, setA_L, copyA_L]; exact hok
  · refine ValOk.more (S := S) ?_ hm
    unfold updF
    split
    · exact V
    · exact A.vals i (by omega)
/-- What a push gives. -/
def LPushPost (o : Own) (w : World) (r p : Nat) (S : EngS) (h : Int) (f : Nat → Nat × Int) (n c : Nat) (s : Int) (q : Nat) (v : Int) (e : Ending) (w' : World) : Prop :=
  (n < c ∧ ∃ S', S'.L = S.L ∧ EngDo o w r p S' (.int .i64 0) e w' ∧ LS S' h (updF f n (q, v)) (n + 1) c s) ∨
  (n = c ∧ ∃ S' t L', tookL S.L (wordsN (moreN c 4) 0) = some (L', t) ∧ S'.L = L' ∧ L'.n = S.L.n ∧ 64 ≤ t ∧ t < 262144 ∧ EngDo o w r p S' (.int .i64 0) e w' ∧ LS S' h (updF f n (q, v)) (n + 1) (moreN c 4) (t : Int)) ∨
  (n = c ∧ tookL S.L (wordsN (moreN c 4) 0) = none ∧ EngDo o w r p S (.int .i64 2) e w')
theorem push_any {o : Own} {r p : Nat} (q : Nat) (v : Int) (w : World) (hr : 1 ≤ r) (ho : Owned o w) (E : EngRep o w r p S) (A : LS S h f n c s) (hn : n < 4000) (V : ValOk S q v) :
    Calls Tryz.prog 29 #[.pointer (some ⟨p, 0, none⟩), .int .i64 h, valV q v] w (LPushPost o w r p S h f n c s q v) := by
  obtain ⟨x, B⟩ := A.ex
  by_cases hc : n < c
  · obtain ⟨y, hy, hyc, hk, h1, h2⟩ := A.st (by omega)
    exact (push_has q v w hr ho E B hc hy hyc A.hs V (by rw [h2 n (by omega) hc]; omega)).mono fun e w' hh => .inl ⟨hc, _, by show (setA S s y n q v).L = _; exact setA_L .., hh, A.has B hy hyc hk h1 h2 hc V⟩
  · obtain rfl : n = c := by have := B.nc; omega
    cases hT : tookL S.L (wordsN (moreN n 4) 0) with
    | none => exact (push_full q v w ho E B hn V A.ok hT).mono fun e w' hh => .inr (.inr ⟨rfl, hT, hh⟩)
    | some x2 =>
      obtain ⟨L', t⟩ := x2
      have hy : ∃ y : Ob, (0 < n → S.ob s = some y ∧ y.cells = n) ∧ ∀ i, i < n → y.val i = f i := by
        rcases Nat.eq_zero_or_pos n with h0 | h0
        · exact ⟨newOb 0 0 0, fun h => by omega, fun i hi => by omega⟩
        · obtain ⟨y, hy, hyc, hk, h1, h2⟩ := A.st h0
          exact ⟨y, fun _ => ⟨hy, hyc⟩, h1⟩
      obtain ⟨y, hy, h1⟩ := hy
      exact (push_new q v L' t w hr ho E B hn hy V (fun i hi => by rw [h1 i hi]; exact ⟨(A.vals i hi).q3, (A.vals i hi).n64, (A.vals i hi).ref⟩) A.ok hT).mono fun e w' hh => by
        obtain ⟨hE, hnew, h64, h26, hok, hLn⟩ := hh
        refine .inr (.inl ⟨rfl, _, t, L', hT, ?_, hLn, h64, h26, hE, A.grow B h1 hnew hok hn V⟩)
        show (setA (setA (copyA (makeA S L' t 4 (moreN n 4) 0) (t : Int) (newOb 4 (moreN n 4) 0) y.val n) (t : Int) (withVals (newOb 4 (moreN n 4) 0) y.val n) n q v) h x 1 3 (t : Int)).L = L'
        rw [setA_L, setA_L, copyA_L]
        rfl
end
end Go.Proofs.YtlpklloagaccoaaGreat
namespace Go.Proofs.YtlpklloagaccoaaGreat
open Go.RowKit
set_option linter.unusedVariables false

section
variable {o : Own} {r p : Nat} {S : EngS} {h : Int} {f : Nat → Nat × Int} {n c : Nat} {s : Int}
theorem LS.made {L' : Al} {a : Nat} (h64 : 64 ≤ a) (hok : L'.ok = true) (f : Nat → Nat × Int) : LS (newListA S L' a) (a : Int) f 0 0 0 := by
  have hob : (newListA S L' a).ob (a : Int) = some (setVal (newOb 2 2 0) 0 (1, 0)) := if_pos rfl
  refine ⟨⟨_, ⟨⟨hob, rfl, fun _ => ⟨?_, rfl⟩, fun h0 => by omega⟩, rfl, rfl, by omega, by omega⟩⟩, fun h0 => by omega, by omega, hok, fun i hi => by omega⟩
  show (updF (fun _ => (0, 0)) 0 (1, 0) 1 : Nat × Int).1 ≠ 3
  unfold updF
  rw [if_neg (by omega)]
  show (0 : Nat) ≠ 3
  omega
theorem ls_len (w : World) (ho : Owned o w) (E : EngRep o w r p S) (A : LS S h f n c s) :
    Calls Tryz.prog 34 #[.pointer (some ⟨p, 0, none⟩), .int .i64 h] w fun e w' => e = .returned (.tuple #[.int .i64 (n : Nat), .int .i64 0]) ∧ Below w.heap.size w w' := by
  obtain ⟨x, B⟩ := A.ex
  exact llen w ho E B
theorem ls_get (i : Nat) (w : World) (ho : Owned o w) (E : EngRep o w r p S) (A : LS S h f n c s) (hi : i < n) :
    Calls Tryz.prog 35 #[.pointer (some ⟨p, 0, none⟩), .int .i64 h, .int .i64 (i : Nat)] w fun e w' => e = .returned (.tuple #[valV (f i).1 (f i).2, .int .i64 0]) ∧ Below w.heap.size w w' := by
  obtain ⟨x, B⟩ := A.ex
  obtain ⟨y, hy, hyc, hk, h1, h2⟩ := A.st (by have := B.nc; omega)
  rw [← h1 i hi]
  exact lget i w ho E B hy hyc hi
theorem ls_get_no (i : Int) (w : World) (ho : Owned o w) (E : EngRep o w r p S) (A : LS S h f n c s) (hi : ¬ (0 ≤ i ∧ i < n)) :
    Calls Tryz.prog 35 #[.pointer (some ⟨p, 0, none⟩), .int .i64 h, .int .i64 i] w fun e w' => e = .returned (.tuple #[valV 0 0, .int .i64 6]) ∧ Below w.heap.size w w' := by
  obtain ⟨x, B⟩ := A.ex
  exact lget_no i w ho E B hi
theorem LS.put (A : LS S h f n c s) {y : Ob} (hy : S.ob s = some y) (hyc : y.cells = c) (hk : y.kind = 4) (h1 : ∀ i, i < n → y.val i = f i) (h2 : ∀ i, n ≤ i → i < c → (y.val i).1 = 0) {i : Nat} (hi : i < n) {q : Nat} {v : Int} (V : ValOk S q v) :
    LS (setA S s y i q v) h (updF f i (q, v)) n c s := by
  obtain ⟨x, B⟩ := A.ex
  have obs : (setA S s y i q v).ob s = some (setVal y i (q, v)) := by rw [setA_ob]; exact if_pos rfl
  have obh : (setA S s y i q v).ob h = some x := by rw [setA_ob]; unfold updI; rw [if_neg A.hs]; exact B.st.ob
  have hm : ∀ m z, S.ob m = some z → ∃ z', (setA S s y i q v).ob m = some z' := fun m z hz => by rw [setA_ob]; exact updI_some hz
  refine ⟨⟨x, ⟨⟨obh, B.st.two, B.st.none_, fun h0 => ⟨(B.st.some_ h0).1, _, obs, hyc⟩⟩, B.kind, B.len, B.nc, B.c4⟩⟩, fun h0 => ⟨_, obs, hyc, hk, fun j hj => ?_, fun j hj hjc => ?_⟩, A.hs, by rw [setA_L]; exact A.ok, fun j hj => ?_⟩
  · show updF y.val i (q, v) j = updF f i (q, v) j
    unfold updF
    split
    · rfl
    · exact h1 j hj
  · show (updF y.val i (q, v) j).1 = 0
    unfold updF
    rw [if_neg (by omega)]
    exact h2 j hj hjc
  · refine ValOk.more (S := S) ?_ hm
    unfold updF
    split
    · exact V
    · exact A.vals j hj
theorem ls_put (i q : Nat) (v : Int) (w : World) (hr : 1 ≤ r) (ho : Owned o w) (E : EngRep o w r p S) (A : LS S h f n c s) (hi : i < n) (V : ValOk S q v) :
    Calls Tryz.prog 36 #[.pointer (some ⟨p, 0, none⟩), .int .i64 h, .int .i64 (i : Nat), valV q v] w fun e w' => ∃ S', S'.L = S.L ∧ EngDo o w r p S' (.int .i64 0) e w' ∧ LS S' h (updF f i (q, v)) n c s := by
  obtain ⟨x, B⟩ := A.ex
  obtain ⟨y, hy, hyc, hk, h1, h2⟩ := A.st (by have := B.nc; omega)
  exact (lput i q v w hr ho E B hy hyc hi V (fun e => by rw [h1 i hi] at e ⊢; exact (A.vals i hi).ref e)).mono fun e w' hh => ⟨_, setA_L .., hh, A.put hy hyc hk h1 h2 hi V⟩
theorem ls_put_no (i : Int) (q : Nat) (v : Int) (w : World) (ho : Owned o w) (E : EngRep o w r p S) (A : LS S h f n c s) (hi : ¬ (0 ≤ i ∧ i < n)) (V : ValOk S q v) :
    Calls Tryz.prog 36 #[.pointer (some ⟨p, 0, none⟩), .int .i64 h, .int .i64 i, valV q v] w fun e w' => e = .returned (.int .i64 6) ∧ Fr 0 0 o o w w' := by
  obtain ⟨x, B⟩ := A.ex
  exact lput_no i q v w ho E B hi V
/-- What making a list gives where there is room. -/
def LNewPost (o : Own) (w : World) (r p : Nat) (S : EngS) (L' : Al) (a : Nat) (e : Ending) (w' : World) : Prop :=
  ∃ S', S'.L = L' ∧ L'.n = S.L.n ∧ 64 ≤ a ∧ EngDo o w r p S' (.tuple #[.int .i64 (a : Nat), .int .i64 0]) e w' ∧ ∀ f, LS S' (a : Int) f 0 0 0
theorem ls_new (L' : Al) (a : Nat) (w : World) (hr : 1 ≤ r) (ho : Owned o w) (E : EngRep o w r p S) (hok : S.L.ok = true) (hT : tookL S.L (wordsN 2 0) = some (L', a)) :
    Calls Tryz.prog 28 #[.pointer (some ⟨p, 0, none⟩)] w (LNewPost o w r p S L' a) :=
  (lnew L' a w hr ho E hok hT).mono fun e w' hh => by
    obtain ⟨hE, hnew, h64, h26, hok', hLn⟩ := hh
    exact ⟨_, rfl, hLn, h64, hE, fun f => LS.made h64 hok' f⟩
end
end Go.Proofs.YtlpklloagaccoaaGreat
