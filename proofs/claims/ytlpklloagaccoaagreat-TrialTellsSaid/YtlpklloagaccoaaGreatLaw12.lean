/- The laws of counts: what they have in common (num, alive; a set of one; whole counts under Set). No condition. -/
import Derived.Test.YtlpklloagaccoaaGreatZeros
import Derived.Test.YtlpklloagaccoaaGreatEngNew
import Derived.Test.YtlpklloagaccoaaGreatRoom
import Derived.Test.YtlpklloagaccoaaGreatStr
import Derived.Outline
namespace Go.Proofs.YtlpklloagaccoaaGreat
open Go.RowKit
set_option linter.unusedVariables false

theorem num12 (n : Int) (w : World) : Calls Tryz.prog 67 #[.int .i64 n] w fun e w' => e = .returned (.int .i64 n) ∧ w = w' := by
  go_enter Tryz.func67, Tryz.ntmps67
  go_wp2
  go_ret
  exact ⟨rfl, rfl⟩
theorem sorted_head {a : Int} : ∀ {l : List Int}, (a :: l).Pairwise (· < ·) → ∀ b ∈ l, a < b := fun h => (List.pairwise_cons.1 h).1
theorem SetL.none {S : Int → Bool} {xs : List Int} (h : SetL S xs) (e : ∀ k, S k = false) : xs = [] := by
  cases xs with
  | nil => rfl
  | cons a l => have := (h.mem a).1 (List.mem_cons_self ..); rw [e] at this; cases this
theorem SetL.one {S : Int → Bool} {xs : List Int} (h : SetL S xs) (a : Int) (e : ∀ k, S k = true ↔ k = a) : xs = [a] := by
  have ha : a ∈ xs := (h.mem a).2 ((e a).2 rfl)
  have hall : ∀ b ∈ xs, b = a := fun b hb => (e b).1 ((h.mem b).1 hb)
  have hs := h.sorted
  cases xs with
  | nil => cases ha
  | cons b l =>
    have hb := hall b (List.mem_cons_self ..)
    subst hb
    cases l with
    | nil => rfl
    | cons c l =>
      have h1 := sorted_head hs c (List.mem_cons_self ..)
      have h2 := hall c (List.mem_cons_of_mem _ (List.mem_cons_self ..))
      omega
section
variable {S : EngS} {h : Int} {x : Ob} {i q : Nat} {n : Int}
/-- Whole counts behind Set, where nothing sticks. -/
theorem setA_tot (hw : S.weak h = false) (hold : (x.val i).1 = 3 → S.st (x.val i).2 = false ∧ 1 ≤ S.tot (x.val i).2) (hnew : q = 3 → S.st n = false ∧ S.tot n + 1 < S.lim) (k : Int) :
    (setA S h x i q n).tot k = S.tot k + (if q = 3 ∧ n = k then 1 else 0) - (if (x.val i).1 = 3 ∧ (x.val i).2 = k then 1 else 0) ∧ (setA S h x i q n).st k = S.st k := by
  unfold setA
  rw [if_neg (by rw [hw]; decide)]
  have W : (wrA S h x i q n).tot = S.tot ∧ (wrA S h x i q n).st = S.st ∧ (wrA S h x i q n).lim = S.lim := ⟨rfl, rfl, rfl⟩
  generalize wrA S h x i q n = T at *
  obtain ⟨W1, W2, W3⟩ := W
  generalize x.val i = v at *
  obtain ⟨vq, vn⟩ := v
  have U : ∀ (T : EngS) (u : Int), T.st u = false → T.tot u + 1 < T.lim → ∀ k, (upA T u).tot k = T.tot k + (if u = k then 1 else 0) ∧ (upA T u).st k = T.st k := by
    intro T u h1 h2 k
    refine ⟨?_, ?_⟩
    · show updI T.tot u _ k = _
      unfold updI
      by_cases e : k = u
      · subst e; rw [if_pos rfl, if_pos rfl]; exact if_neg (by rw [h1]; decide)
      · rw [if_neg e, if_neg (fun x => e x.symm)]; omega
    · show updB T.st u _ k = _
      unfold updB
      by_cases e : k = u
      · subst e; rw [if_pos rfl, h1, Bool.false_or]; exact decide_eq_false (by omega)
      · rw [if_neg e]
  have D : ∀ (T : EngS) (u : Int), T.st u = false → 1 ≤ T.tot u → ∀ k, (downA T u).tot k = T.tot k - (if u = k then 1 else 0) ∧ (downA T u).st k = T.st k := by
    intro T u h1 h2 k
    refine ⟨?_, rfl⟩
    show updI T.tot u _ k = _
    unfold updI
    have h0 : ¬ T.tot u = 0 := by omega
    by_cases e : k = u
    · subst e; rw [if_pos rfl, if_pos rfl, if_neg (by rw [h1]; decide)]; exact if_neg h0
    · rw [if_neg e, if_neg (fun x => e x.symm)]; omega
  show (if vq = 3 then _ else _ : EngS).tot k = _ - (if vq = 3 ∧ vn = k then 1 else 0) ∧ (if vq = 3 then _ else _ : EngS).st k = _
  by_cases hq : q = 3
  · obtain ⟨n1, n2⟩ := hnew hq
    have u1 := U T n (by rw [W2]; exact n1) (by rw [W1, W3]; exact n2)
    rw [if_pos hq]
    have e1 : (if q = 3 ∧ n = k then (1 : Int) else 0) = if n = k then 1 else 0 := by simp [hq]
    rw [e1]
    by_cases hv : vq = 3
    · obtain ⟨o1, o2⟩ := hold hv
      have e2 : (if vq = 3 ∧ vn = k then (1 : Int) else 0) = if vn = k then 1 else 0 := by simp [hv]
      rw [if_pos hv, e2]
      have d1 := D (upA T n) vn (by rw [(u1 vn).2, W2]; exact o1) (by rw [(u1 vn).1, W1]; change 1 ≤ S.tot vn at o2; split <;> omega) k
      exact ⟨by rw [d1.1, (u1 k).1, W1], by rw [d1.2, (u1 k).2, W2]⟩
    · rw [if_neg hv, if_neg (show ¬ (vq = 3 ∧ vn = k) from fun x => hv x.1)]
      exact ⟨by rw [(u1 k).1, W1]; omega, by rw [(u1 k).2, W2]⟩
  · rw [if_neg hq, if_neg (show ¬ (q = 3 ∧ n = k) from fun x => hq x.1)]
    by_cases hv : vq = 3
    · obtain ⟨o1, o2⟩ := hold hv
      have e2 : (if vq = 3 ∧ vn = k then (1 : Int) else 0) = if vn = k then 1 else 0 := by simp [hv]
      rw [if_pos hv, e2]
      have d1 := D T vn (by rw [W2]; exact o1) (by rw [W1]; exact o2) k
      exact ⟨by rw [d1.1, W1]; omega, by rw [d1.2, W2]⟩
    · rw [if_neg hv, if_neg (show ¬ (vq = 3 ∧ vn = k) from fun x => hv x.1)]
      exact ⟨by rw [W1]; omega, by rw [W2]⟩
end
/-- Two boxes in a new engine, the first of them refers to the second. -/
def Two (S : EngS) (a b : Nat) : Prop := S.tot (b : Int) = 1 ∧ ∀ k, S.Z k = true ↔ k = (a : Int)
theorem two_ok (S1 : EngS) (a b : Nat) (L1 L2 : Al) (hS1 : S1 = makeA (newEng 4 10) L1 a 5 1 0) (hn : S1.ob (b : Int) = none) :
    (makeA S1 L2 b 5 1 0).ob (a : Int) = some (newOb 5 1 0) ∧ (∃ y, (makeA S1 L2 b 5 1 0).ob (b : Int) = some y) ∧ Two (setA (makeA S1 L2 b 5 1 0) a (newOb 5 1 0) 0 3 (b : Int)) a b ∧ (∃ z, (setA (makeA S1 L2 b 5 1 0) a (newOb 5 1 0) 0 3 (b : Int)).ob (b : Int) = some z) := by
  subst hS1
  have hab : (b : Int) ≠ (a : Int) := by
    intro e
    rw [e] at hn
    have h2 : updI (newEng 4 10).ob (a : Int) (some (newOb 5 1 0)) (a : Int) = none := hn
    unfold updI at h2
    rw [if_pos rfl] at h2
    cases h2
  have h1 : (makeA (makeA (newEng 4 10) L1 a 5 1 0) L2 b 5 1 0).ob (a : Int) = some (newOb 5 1 0) := by
    show updI (updI _ _ _) _ _ _ = _
    unfold updI
    rw [if_neg (fun e => hab e.symm), if_pos rfl]
  have h2 : (makeA (makeA (newEng 4 10) L1 a 5 1 0) L2 b 5 1 0).ob (b : Int) = some (newOb 5 1 0) := by
    show updI (updI _ _ _) _ _ _ = _
    unfold updI
    rw [if_pos rfl]
  refine ⟨h1, ⟨_, h2⟩, ⟨?_, ?_⟩, ?_⟩
  · rw [(setA_tot (S := makeA (makeA (newEng 4 10) L1 a 5 1 0) L2 b 5 1 0) (h := a) (x := newOb 5 1 0) (i := 0) (q := 3) (n := (b : Int)) rfl (fun e => by cases e) (fun _ => ⟨rfl, by show (0 : Int) + 1 < 10; decide⟩) (b : Int)).1]
    rw [if_pos ⟨rfl, rfl⟩, if_neg (fun e => by cases e.1)]
    rfl
  · intro k
    show (if (0 : Int) = 0 then updS (updS (updS (fun _ => false) (a : Int) true) (b : Int) true) (b : Int) false else updS (updS (fun _ => false) (a : Int) true) (b : Int) true) k = true ↔ _
    rw [if_pos rfl]
    unfold updS
    by_cases e : k = (b : Int)
    · subst e; rw [if_pos rfl]; exact ⟨fun h => (by cases h), fun h => absurd h hab⟩
    · rw [if_neg e, if_neg e]
      by_cases e2 : k = (a : Int)
      · rw [if_pos e2]; exact ⟨fun _ => e2, fun _ => rfl⟩
      · rw [if_neg e2]; exact ⟨fun h => (by cases h), fun h => absurd h e2⟩
  · rw [setA_ob]
    unfold updI
    rw [if_neg hab, h2]
    exact ⟨_, rfl⟩
set_option maxRecDepth 100000 in
set_option maxHeartbeats 1000000 in
theorem alive12 (w : World) : Calls Tryz.prog 65 #[] w fun e w' => e = .returned (.bool true) ∧ Below w.heap.size w w' := by
  have HN := Lib.hid (show Calls Tryz.prog 27 #[.int .i64 4, .int .i64 0, .int .i64 10] w (EngNew (Own.base w) w 1 4 10) from eng_new 1 4 10 w (Own.base_owned w) (by omega) (by omega) (by omega) (by omega))
  have HB := Lib.hid (LF.start w)
  have HZ := Lib.hid (fun (o : Own) (p : Nat) (S : EngS) (w0 w1 : World) (F : Fr 0 0 o o w0 w1) (E : EngRep o w0 1 p S) => show Calls Tryz.prog 69 #[.pointer (some ⟨p, 0, none⟩)] w1 fun e w' => ∃ A n cap xs, e = .returned (.slice A n cap) ∧ SetL S.Z xs ∧ n = xs.length ∧ Fr 0 0 o o w0 w' from
    (rzeros w1 F.fresh (E.keep F (.inr (Nat.zero_le _)))).mono fun e w' hh => by
      obtain ⟨v, xs, h1, h2, h3, h4⟩ := hh
      obtain ⟨A, cap, hv, hR⟩ := h4.row.rd
      exact ⟨A, xs.length, cap, xs, by rw [h1, hv], h2, rfl, F.trans h3⟩)
  have HM := Lib.hid (fun (o : Own) (p t : Nat) (S : EngS) (w0 w1 : World) (F : Fr 0 0 o o w0 w1) (E : EngRep o w0 1 p S) (hok : S.L.ok = true) (hn : S.L.n = 4) (ht : S.L.t ≤ t) (h3 : t ≤ 3) => show Calls Tryz.prog 66 #[.pointer (some ⟨p, 0, none⟩), .int .i64 5, .int .i64 1, .int .i64 0] w1 fun e w' => ∃ a L' o', e = .returned (.tuple #[.int .i64 (a : Nat), .int .i64 0]) ∧ Fr 1 30 o o' w0 w' ∧ EngRep o' w' 1 p (makeA S L' a 5 1 0) ∧ S.ob (a : Int) = none ∧ a < 262144 ∧ L'.ok = true ∧ L'.n = 4 ∧ L'.t ≤ t + 1 from by
    obtain ⟨L', a, hT, ht2, _⟩ := tookL_room S.L (wordsN 1 0) (by show S.L.t + (4 / 64 + 1) ≤ S.L.n; omega)
    refine (rmake 5 1 0 5 1 0 rfl rfl rfl L' a w1 F.fresh (E.keep F (.inr (Nat.zero_le _))) hok (by omega) (by omega) (by omega) hT).mono fun e w' hh => ?_
    obtain ⟨⟨h1, o', F', E'⟩, h2, _, h4, h5, h6⟩ := hh
    have ht3 : L'.t ≤ S.L.t + (4 / 64 + 1) := ht2
    exact ⟨a, L', o', h1, (F.none 1 30).trans F', E', h2, h4, h5, by omega, by omega⟩)
  have HS := Lib.hid (fun (o : Own) (p a b : Nat) (L1 L2 : Al) (w0 w1 : World) (F : Fr 0 0 o o w0 w1) (hn : (makeA (newEng 4 10) L1 a 5 1 0).ob (b : Int) = none ∧ b < 262144) (E : EngRep o w0 1 p (makeA (makeA (newEng 4 10) L1 a 5 1 0) L2 b 5 1 0)) => show Calls Tryz.prog 68 #[.pointer (some ⟨p, 0, none⟩), .int .i64 (a : Nat), .int .i64 0, valV 3 (b : Nat)] w1 fun e w' => e = .returned (.int .i64 0) ∧ ∃ o' S', Fr 1 30 o o' w0 w' ∧ EngRep o' w' 1 p S' ∧ Two S' a b ∧ (∃ z, S'.ob (b : Int) = some z) from by
    obtain ⟨t1, t2, t3, t4⟩ := two_ok _ a b L1 L2 rfl hn.1
    have hb : in64 (b : Int) := by unfold in64; omega
    exact (rset (a : Int) 0 (newOb 5 1 0) 0 3 (b : Int) w1 (by omega) F.fresh (E.keep F (.inr (Nat.zero_le _))) t1 rfl (by show 0 < 1; omega) (by omega) hb (fun _ => t2) (fun _ e => by cases e)).mono fun e w' hh => by
      obtain ⟨h1, o', F', E'⟩ := hh
      exact ⟨h1, o', _, (F.none 1 30).trans F', E', t3, t4⟩)
  go_enter Tryz.func65, Tryz.ntmps65
  go_wp2_with fail
  go_at_call 27
  refine HN.out.mono ?_
  rintro e w1 ⟨p, o1, rfl, F1, E1⟩
  have HF1 := Lib.hid (HB.out.fr F1 (by omega))
  have HE1 := Lib.hid E1
  clear F1 E1
  go_wp2_with fail
  go_at_call 69
  refine (HZ.out _ _ _ w1 _ (by repeat (first | exact Fr.refl HF1.out.fresh | refine Fr.drew ?_ | refine Fr.alloc ?_ _)) HE1.out).mono ?_
  rintro e w2 ⟨A2, n2, cap2, xs2, rfl, s2, l2, F2⟩
  have hx2 : xs2 = [] := s2.none fun _ => rfl
  rw [hx2] at l2
  have l3 : n2 = 0 := l2
  subst l3
  have HF2 := Lib.hid F2
  clear s2 l2 F2 hx2
  go_wp2_with fail
  go_at_call 66
  refine (HM.out _ _ 1 _ w1 _ (by repeat (first | exact HF2.out | refine Fr.drew ?_ | refine Fr.alloc ?_ _)) HE1.out rfl rfl (Nat.le_refl _) (by omega)).mono ?_
  rintro e w3 ⟨a, L1, o3, rfl, F3, E3, _, _, k1, k2, k3⟩
  have HF3 := Lib.hid (HF1.out.fr F3 (by omega))
  have HE3 := Lib.hid E3
  have HK3 := Lib.hid (And.intro k1 (And.intro k2 k3))
  clear F3 E3 k1 k2 k3
  go_wp2_with fail
  go_at_call 66
  refine (HM.out _ _ 2 _ w3 _ (by repeat (first | exact Fr.refl HF3.out.fresh | refine Fr.drew ?_ | refine Fr.alloc ?_ _)) HE3.out HK3.out.1 HK3.out.2.1 HK3.out.2.2 (by omega)).mono ?_
  rintro e w4 ⟨b, L2, o4, rfl, F4, E4, n4, n4', _⟩
  have HF4 := Lib.hid (HF3.out.fr F4 (by omega))
  have HE4 := Lib.hid E4
  have HN4 := Lib.hid (And.intro n4 n4')
  clear F4 E4 n4 n4'
  go_wp2_with fail
  go_at_call 68
  refine (HS.out _ _ _ _ _ _ w4 _ (by repeat (first | exact Fr.refl HF4.out.fresh | refine Fr.drew ?_ | refine Fr.alloc ?_ _)) HN4.out HE4.out).mono ?_
  rintro e w5 ⟨rfl, o5, S5, F5, E5, T5, z5⟩
  have HF5 := Lib.hid (HF4.out.fr F5 (by omega))
  have HC5 := Lib.hid (fun (w6 : World) (F : Fr 0 0 o5 o5 w5 w6) => show Calls Tryz.prog 39 #[.pointer (some ⟨p, 0, none⟩), .int .i64 (b : Nat)] w6 fun e w' => ∃ st, e = .returned (.tuple #[.int .i64 1, .bool st]) ∧ Fr 0 0 o5 o5 w5 w' from by
    obtain ⟨z, hz⟩ := z5
    exact (rcount (b : Int) z w6 F.fresh (E5.keep F (.inr (Nat.zero_le _))) hz).mono fun e w' hh => ⟨S5.st (b : Int), by rw [hh.1, T5.1], F.below hh.2⟩)
  have HZ5 := Lib.hid (fun (w6 : World) (F : Fr 0 0 o5 o5 w5 w6) => show Calls Tryz.prog 69 #[.pointer (some ⟨p, 0, none⟩)] w6 fun e w' => ∃ A cap, e = .returned (.slice A 1 cap) ∧ Fr 0 0 o5 o5 w5 w' from
    (HZ.out _ _ _ w5 w6 F E5).mono fun e w' hh => by
      obtain ⟨A, n, cap, xs, h1, h2, h3, h4⟩ := hh
      obtain rfl := h2.one (a : Int) T5.2
      subst h3
      exact ⟨A, cap, h1, h4⟩)
  clear F5 E5 T5 z5
  go_wp2_with fail
  go_at_call 39
  refine (HC5.out _ (by repeat (first | exact Fr.refl HF5.out.fresh | refine Fr.drew ?_ | refine Fr.alloc ?_ _))).mono ?_
  rintro e w6 ⟨st, rfl, F6⟩
  have HF6 := Lib.hid F6
  clear F6
  go_wp2_with (first
    | (go_at_call 67; refine (num12 _ _).mono ?_; rintro e w' ⟨rfl, rfl⟩)
    | (go_at_call 69; refine (HZ5.out _ (by repeat (first | exact HF6.out | refine Fr.drew ?_ | refine Fr.alloc ?_ _))).mono ?_; rintro e w7 ⟨A7, cap7, rfl, F7⟩; have HF7 := Lib.hid F7; clear F7))
  go_ret
  exact ⟨rfl, (HF5.out.fr HF7.out (by omega)).tob⟩
end Go.Proofs.YtlpklloagaccoaaGreat
