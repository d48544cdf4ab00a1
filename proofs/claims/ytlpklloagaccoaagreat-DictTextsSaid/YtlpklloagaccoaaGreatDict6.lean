/- Dicts that were made; a dict within the pages there are; the laws of dicts: what they have in common (num, alive). No condition. -/
import Derived.Test.YtlpklloagaccoaaGreatDict5
import Derived.Test.YtlpklloagaccoaaGreatEngNew
import Derived.Outline
namespace Go.Proofs.YtlpklloagaccoaaGreat
open Go.RowKit
set_option linter.unusedVariables false

section
variable {o : Own} {r p : Nat} {S : EngS}
def newDictA (S : EngS) (L' : Al) (a : Nat) : EngS := wrA (makeA S L' a 3 2 0) (a : Int) (newOb 3 2 0) 0 1 0
set_option maxRecDepth 100000 in
theorem dmade (L' : Al) (a : Nat) (w : World) (hr : 1 ≤ r) (ho : Owned o w) (E : EngRep o w r p S) (hok : S.L.ok = true) (hT : tookL S.L (wordsN 2 0) = some (L', a)) :
    Calls Tryz.prog 89 #[.pointer (some ⟨p, 0, none⟩), .int .i64 3] w fun e w' => EngDo o w r p (newDictA S L' a) (.tuple #[.int .i64 (a : Nat), .int .i64 0]) e w' ∧ S.ob (a : Int) = none ∧ 64 ≤ a ∧ a < 262144 ∧ L'.ok = true ∧ L'.n = S.L.n := by
  have HM := Lib.hid (rmake 3 2 0 3 2 0 rfl rfl rfl L' a w ho E hok (by omega) (by omega) (by omega) hT)
  have HZ := Lib.hid (fun (o1 : Own) (w1 : World) (ho1 : Owned o1 w1) (E1 : EngRep o1 w1 r p (makeA S L' a 3 2 0)) => lsized (a : Int) (newOb 3 2 0) 0 w1 hr ho1 E1 (if_pos rfl) (by show 0 < 2; omega) (by unfold in64; omega) (by show (0 : Nat) ≠ 3; omega))
  clear E hT hok ho
  go_enter Tryz.func89, Tryz.ntmps89
  go_wp2_with fail
  go_at_call 66
  refine HM.out.mono ?_
  rintro e w1 ⟨⟨rfl, o1, F1, E1⟩, hf⟩
  have HF1 := Lib.hid F1
  have HE1 := Lib.hid E1
  have HFF := Lib.hid hf
  clear F1 E1 hf
  go_wp2_with fail
  go_at_call 150
  refine (HZ.out o1 _ HF1.out.fresh HE1.out).mono ?_
  rintro e w2 ⟨rfl, o2, F2, E2⟩
  have HF2 := Lib.hid (HF1.out.trans F2)
  have HE2 := Lib.hid E2
  clear F2 E2
  go_wp2_with fail
  go_ret2
  exact ⟨⟨rfl, o2, HF2.out, HE2.out⟩, HFF.out⟩
theorem DS.made {L' : Al} {a : Nat} (h64 : 64 ≤ a) (hok : L'.ok = true) (ks vs : Nat → Nat × Int) : DS (newDictA S L' a) (a : Int) ks vs 0 0 0 := by
  have hob : (newDictA S L' a).ob (a : Int) = some (setVal (newOb 3 2 0) 0 (1, 0)) := if_pos rfl
  refine ⟨⟨_, ⟨⟨hob, rfl, fun _ => ⟨?_, rfl⟩, fun h0 => by omega⟩, rfl, rfl, by omega, by omega⟩⟩, fun h0 => by omega, by omega, hok, fun i hi => by omega, fun i hi => by omega⟩
  show (updF (fun _ => (0, 0)) 0 (1, 0) 1 : Nat × Int).1 ≠ 3
  unfold updF
  rw [if_neg (by omega)]
  show (0 : Nat) ≠ 3
  omega
set_option maxRecDepth 100000 in
theorem dnew (L' : Al) (a : Nat) (w : World) (hr : 1 ≤ r) (ho : Owned o w) (E : EngRep o w r p S) (hok : S.L.ok = true) (hT : tookL S.L (wordsN 2 0) = some (L', a)) :
    Calls Tryz.prog 41 #[.pointer (some ⟨p, 0, none⟩)] w fun e w' => EngDo o w r p (newDictA S L' a) (.tuple #[.int .i64 (a : Nat), .int .i64 0]) e w' ∧ S.ob (a : Int) = none ∧ 64 ≤ a ∧ a < 262144 ∧ L'.ok = true ∧ L'.n = S.L.n := by
  have HM := Lib.hid (dmade L' a w hr ho E hok hT)
  clear E hT hok ho
  go_enter Tryz.func41, Tryz.ntmps41
  go_wp2_with fail
  go_at_call 89
  refine HM.out.mono ?_
  rintro e w1 ⟨⟨rfl, hE⟩, hf⟩
  have HE1 := Lib.hid hE
  have HFF := Lib.hid hf
  clear hE hf
  go_wp2_with fail
  go_ret2
  exact ⟨⟨rfl, HE1.out⟩, HFF.out⟩
end
/-- Cells of a dict's store, and how many pages are gone at most, 'u' of them for other things. -/
def GD (u c t : Nat) : Prop := (c = 0 ∧ t ≤ 2 + u) ∨ (c = 8 ∧ t ≤ 3 + u) ∨ (c = 16 ∧ t ≤ 4 + u) ∨ (c = 32 ∧ t ≤ 6 + u) ∨ (c = 64 ∧ t ≤ 9 + u) ∨ (c = 128 ∧ t ≤ 14 + u) ∨ (c = 256 ∧ t ≤ 23 + u) ∨ (c = 512 ∧ t ≤ 40 + u)
theorem GD.even {u c t : Nat} (h : GD u c t) : c % 2 = 0 ∧ c ≤ 512 := by
  rcases h with ⟨rfl, _⟩ | ⟨rfl, _⟩ | ⟨rfl, _⟩ | ⟨rfl, _⟩ | ⟨rfl, _⟩ | ⟨rfl, _⟩ | ⟨rfl, _⟩ | ⟨rfl, _⟩ <;> exact ⟨by decide, by decide⟩
theorem GD.more {u u' c t t' : Nat} (h : GD u c t) (e : t' + u ≤ t + u') : GD u' c t' := by
  unfold GD at h ⊢; omega
theorem GD.one {L : Al} {u c c' k : Nat} (hm : moreN c 8 = c') (hk : (1 + 2 * c') / 64 + 1 = k) (ht : L.t + k ≤ L.n) (hb : ∀ t', t' ≤ L.t + k → GD u c' t') : ∃ L' a, tookL L (wordsN (moreN c 8) 0) = some (L', a) ∧ GD u (moreN c 8) L'.t := by
  rw [hm]
  have e : wordsN c' 0 = 1 + 2 * c' := rfl
  obtain ⟨L', a, h1, h2, h3⟩ := tookL_room L (wordsN c' 0) (by rw [e, hk]; exact ht)
  rw [e, hk] at h2
  exact ⟨L', a, h1, hb _ h2⟩
theorem GD.step {L : Al} {u c m : Nat} (h : GD u c L.t) (hc : c < m) (hn : (m ≤ 2 ∧ u + 3 ≤ L.n) ∨ (m ≤ 18 ∧ u + 6 ≤ L.n) ∨ (m ≤ 512 ∧ u + 40 ≤ L.n)) : ∃ L' a, tookL L (wordsN (moreN c 8) 0) = some (L', a) ∧ GD u (moreN c 8) L'.t := by
  rcases h with ⟨rfl, h⟩ | ⟨rfl, h⟩ | ⟨rfl, h⟩ | ⟨rfl, h⟩ | ⟨rfl, h⟩ | ⟨rfl, h⟩ | ⟨rfl, h⟩ | ⟨rfl, h⟩
  · exact GD.one (c' := 8) (k := 1) (by decide) (by decide) (by omega) fun t' ht => .inr (.inl ⟨rfl, by omega⟩)
  · exact GD.one (c' := 16) (k := 1) (by decide) (by decide) (by omega) fun t' ht => .inr (.inr (.inl ⟨rfl, by omega⟩))
  · exact GD.one (c' := 32) (k := 2) (by decide) (by decide) (by omega) fun t' ht => .inr (.inr (.inr (.inl ⟨rfl, by omega⟩)))
  · exact GD.one (c' := 64) (k := 3) (by decide) (by decide) (by omega) fun t' ht => .inr (.inr (.inr (.inr (.inl ⟨rfl, by omega⟩))))
  · exact GD.one (c' := 128) (k := 5) (by decide) (by decide) (by omega) fun t' ht => .inr (.inr (.inr (.inr (.inr (.inl ⟨rfl, by omega⟩)))))
  · exact GD.one (c' := 256) (k := 9) (by decide) (by decide) (by omega) fun t' ht => .inr (.inr (.inr (.inr (.inr (.inr (.inl ⟨rfl, by omega⟩))))))
  · exact GD.one (c' := 512) (k := 17) (by decide) (by decide) (by omega) fun t' ht => .inr (.inr (.inr (.inr (.inr (.inr (.inr ⟨rfl, by omega⟩))))))
  · omega
/-- A dict whose keys are no references. -/
structure DL (o : Own) (w : World) (p a N : Nat) (ks vs : Nat → Nat × Int) (n : Nat) : Prop where
  ex : ∃ S c s, EngRep o w 1 p S ∧ DS S (a : Int) ks vs n c s ∧ S.L.n = N ∧ GD 0 c S.L.t
  ref : ∀ i, i < n → (ks i).1 ≠ 3
theorem DL.keep {lo hi : Nat} {o o1 : Own} {w w1 : World} {p a N n : Nat} {ks vs : Nat → Nat × Int} (G : DL o w p a N ks vs n) (F : Fr lo hi o o1 w w1) (h : 30 ≤ lo ∨ hi ≤ 1) : DL o1 w1 p a N ks vs n := by
  obtain ⟨⟨S, c, s, E, A⟩, h2⟩ := G
  exact ⟨⟨S, c, s, E.keep F (by omega), A⟩, h2⟩
/-- Keys that are no references, found by what they are. -/
structure FoundV (ks : Nat → Nat × Int) (k : Nat × Int) (n i : Nat) : Prop where
  le : i ≤ n
  no : ∀ j, j < i → vsame (ks j).1 (ks j).2 k.1 k.2 = false
  yes : i < n → vsame (ks i).1 (ks i).2 k.1 k.2 = true
theorem Found.val {S : EngS} {ks : Nat → Nat × Int} {k : Nat × Int} {n i : Nat} (F : Found S ks k n i) (h : k.1 ≠ 3) : FoundV ks k n i := by
  have e : ∀ j, sameK S (ks j) k = vsame (ks j).1 (ks j).2 k.1 k.2 := fun j => by unfold sameK; rw [if_neg (fun e => h e.2)]
  exact ⟨F.le, fun j hj => by rw [← e]; exact F.no j hj, fun hi => by rw [← e]; exact F.yes hi⟩
theorem d_new {o : Own} {p : Nat} (N : Nat) (lim : Int) (ks vs : Nat → Nat × Int) (w : World) (hN : 2 ≤ N) (ho : Owned o w) (E : EngRep o w 1 p (newEng N lim)) :
    Calls Tryz.prog 41 #[.pointer (some ⟨p, 0, none⟩)] w fun e w' => ∃ a o', e = .returned (.tuple #[.int .i64 (a : Nat), .int .i64 0]) ∧ Fr 1 30 o o' w w' ∧ DL o' w' p a N ks vs 0 := by
  obtain ⟨L', a, hT, ht, _⟩ := tookL_room (newAl N) (wordsN 2 0) (by show 1 + (5 / 64 + 1) ≤ N; omega)
  refine (dnew L' a w (by omega) ho E rfl hT).mono fun e w' hh => ?_
  obtain ⟨⟨h1, o', F, E'⟩, hnew, h64, h26, hok', hLn⟩ := hh
  exact ⟨a, o', h1, F, ⟨_, 0, 0, E', DS.made h64 hok' ks vs, hLn, .inl ⟨rfl, ht⟩⟩, fun i hi => by omega⟩
theorem d_len {o : Own} {p a N n : Nat} {ks vs : Nat → Nat × Int} (w0 w : World) (F : Fr 0 0 o o w0 w) (G : DL o w0 p a N ks vs n) :
    Calls Tryz.prog 46 #[.pointer (some ⟨p, 0, none⟩), .int .i64 (a : Nat)] w fun e w' => e = .returned (.tuple #[.int .i64 (n : Nat), .int .i64 0]) ∧ Fr 0 0 o o w0 w' := by
  obtain ⟨⟨S, c, s, E, A, _⟩, _⟩ := G
  obtain ⟨x, B⟩ := A.ex
  exact (dlen w F.fresh (E.keep F (.inr (Nat.zero_le _))) B).mono fun e w' hh => ⟨hh.1, F.below hh.2⟩
theorem d_get {o : Own} {p a N n : Nat} {ks vs : Nat → Nat × Int} (k : Nat × Int) (w0 w : World) (F : Fr 0 0 o o w0 w) (G : DL o w0 p a N ks vs n) (hk : k.1 ≤ 2) :
    Calls Tryz.prog 42 #[.pointer (some ⟨p, 0, none⟩), .int .i64 (a : Nat), valV k.1 k.2] w fun e w' => ∃ i, FoundV ks k n i ∧ e = .returned (getA vs n i) ∧ Fr 0 0 o o w0 w' := by
  obtain ⟨⟨S, c, s, E, A, _⟩, _⟩ := G
  exact (ds_get k w F.fresh (E.keep F (.inr (Nat.zero_le _))) A ⟨by omega, fun e => by omega⟩).mono fun e w' hh => by
    obtain ⟨i, h1, h2, h3⟩ := hh
    exact ⟨i, h1.val (by omega), h2, F.below h3⟩
theorem d_put {o : Own} {p a N n : Nat} {ks vs : Nat → Nat × Int} (k v : Nat × Int) (w0 w : World) (F : Fr 0 0 o o w0 w) (G : DL o w0 p a N ks vs n) (hk : k.1 ≤ 2) (hk64 : in64 k.2) (hv : v.1 ≤ 2) (hv64 : in64 v.2) (hn : (n = 0 ∧ 3 ≤ N) ∨ (n < 8 ∧ 6 ≤ N) ∨ (n < 250 ∧ 40 ≤ N)) :
    Calls Tryz.prog 44 #[.pointer (some ⟨p, 0, none⟩), .int .i64 (a : Nat), valV k.1 k.2, valV v.1 v.2] w fun e w' => ∃ i o', FoundV ks k n i ∧ e = .returned (.int .i64 0) ∧ Fr 1 30 o o' w0 w' ∧ ((i < n ∧ DL o' w' p a N ks (updF vs i v) n) ∨ (i = n ∧ DL o' w' p a N (updF ks n k) (updF vs n v) (n + 1))) := by
  obtain ⟨⟨S, c, s, E, A, hL, hb⟩, hr⟩ := G
  have hev := hb.even
  have hstep : c < 2 * n + 2 → ∃ L' a, tookL S.L (wordsN (moreN c 8) 0) = some (L', a) ∧ GD 0 (moreN c 8) L'.t := fun hc => hb.step hc (by rw [hL]; omega)
  refine (ds_put k v w (by omega) F.fresh (E.keep F (.inr (Nat.zero_le _))) A ⟨by omega, fun e => by omega⟩ ⟨by omega, hk64, fun e => by omega⟩ ⟨by omega, hv64, fun e => by omega⟩ (by omega) hev.1 (fun hc => ⟨by omega, by obtain ⟨L', t, h1, _⟩ := hstep hc; exact ⟨L', t, h1⟩⟩)).mono fun e w' hh => ?_
  obtain ⟨i, S', hf, ⟨h1, o', F2, E'⟩, _, hcase⟩ := hh
  refine ⟨i, o', hf.val (by omega), h1, (F.none 1 30).trans F2, ?_⟩
  rcases hcase with ⟨hi, hL', hD⟩ | ⟨hi, c', s', hD, hc'⟩
  · exact .inl ⟨hi, ⟨S', c, s, E', hD, by rw [hL']; exact hL, by rw [hL']; exact hb⟩, hr⟩
  · refine .inr ⟨hi, ⟨S', c', s', E', hD, ?_⟩, fun j hj => ?_⟩
    · rcases hc' with ⟨_, rfl, hL'⟩ | ⟨hc, rfl, hLn, t, hT⟩
      · exact ⟨by rw [hL']; exact hL, by rw [hL']; exact hb⟩
      · obtain ⟨L', t', h2, h3⟩ := hstep hc
        rw [h2] at hT
        cases hT
        exact ⟨hLn.trans hL, h3⟩
    · unfold updF
      split
      · omega
      · exact hr j (by omega)
theorem num18 (n : Int) (w : World) : Calls Tryz.prog 43 #[.int .i64 n] w fun e w' => e = .returned (.int .i64 n) ∧ w = w' := by
  go_enter Tryz.func43, Tryz.ntmps43
  go_wp2
  go_ret
  exact ⟨rfl, rfl⟩
set_option maxRecDepth 100000 in
set_option maxHeartbeats 1000000 in
theorem alive18 (w : World) : Calls Tryz.prog 40 #[] w fun e w' => e = .returned (.bool true) ∧ Below w.heap.size w w' := by
  have HN := Lib.hid (show Calls Tryz.prog 27 #[.int .i64 4, .int .i64 0, .int .i64 10] w (EngNew (Own.base w) w 1 4 10) from eng_new 1 4 10 w (Own.base_owned w) (by omega) (by omega) (by omega) (by omega))
  have HB := Lib.hid (LF.start w)
  go_enter Tryz.func40, Tryz.ntmps40
  go_wp2_with fail
  go_at_call 27
  refine HN.out.mono ?_
  rintro e w1 ⟨p, o1, rfl, F1, E1⟩
  have HF1 := Lib.hid (HB.out.fr F1 (by omega))
  have HE1 := Lib.hid E1
  clear F1 E1
  go_wp2_with fail
  go_at_call 41
  refine (d_new 4 10 (fun _ => (0, 0)) (fun _ => (0, 0)) _ (by omega) HF1.out.fresh HE1.out).mono ?_
  rintro e w2 ⟨a, o2, rfl, F2, G2⟩
  have HF2 := Lib.hid (HF1.out.fr F2 (by omega))
  have HG2 := Lib.hid G2
  clear F2 G2
  go_wp2_with fail
  go_at_call 46
  refine (d_len w2 _ (by repeat (first | exact Fr.refl HF2.out.fresh | refine Fr.drew ?_ | refine Fr.alloc ?_ _)) HG2.out).mono ?_
  rintro e w3 ⟨rfl, F3⟩
  have HF3 := Lib.hid F3
  clear F3
  go_wp2_with fail
  go_at_call 44
  refine (d_put (0, 0) (1, 5) w2 _ (by repeat (first | exact HF3.out | refine Fr.drew ?_ | refine Fr.alloc ?_ _)) HG2.out (by decide) (by unfold in64; decide) (by decide) (by unfold in64; decide) (by omega)).mono ?_
  rintro e w4 ⟨i4, o4, hf4, rfl, F4, hcase⟩
  have hG4 : DL o4 w4 p a 4 (updF (fun _ => (0, 0)) 0 (0, 0)) (updF (fun _ => (0, 0)) 0 (1, 5)) 1 := by
    rcases hcase with ⟨h, _⟩ | ⟨_, h⟩
    · omega
    · exact h
  have HF4 := Lib.hid (HF2.out.fr F4 (by omega))
  have HG4 := Lib.hid hG4
  have HGt := Lib.hid (fun (w5 : World) (F : Fr 0 0 o4 o4 w4 w5) => show Calls Tryz.prog 42 #[.pointer (some ⟨p, 0, none⟩), .int .i64 (a : Nat), valV 0 0] w5 fun e w' => e = .returned (.tuple #[valV 1 5, .int .i64 0]) ∧ Fr 0 0 o4 o4 w4 w' from
    (d_get (0, 0) w4 w5 F hG4 (by decide)).mono fun e w' hh => by
      obtain ⟨i, h1, h2, h3⟩ := hh
      have hi : i = 0 := by
        rcases Nat.eq_zero_or_pos i with h | h
        · exact h
        · have := h1.no 0 h; cases this
      subst hi
      exact ⟨h2, h3⟩)
  clear F4 hcase hG4 hf4
  go_wp2_with fail
  go_at_call 42
  refine (HGt.out _ (by repeat (first | exact Fr.refl HF4.out.fresh | refine Fr.drew ?_ | refine Fr.alloc ?_ _))).mono ?_
  rintro e w5 ⟨rfl, F5⟩
  have HF5 := Lib.hid (HF4.out.fr F5 (by omega))
  clear F5
  go_wp2_with (go_at_call 43; refine (num18 _ _).mono ?_; rintro e w' ⟨rfl, rfl⟩)
  go_ret
  exact ⟨rfl, (HF5.out.alloc _).tob⟩
end Go.Proofs.YtlpklloagaccoaaGreat
