/- An object that refers to itself; calls on it. Condition: twenty cells at most. -/
import Derived.Test.YtlpklloagaccoaaGreatAll
import Derived.Test.YtlpklloagaccoaaGreatFree
import Derived.Test.YtlpklloagaccoaaGreatLaw12
import Derived.Outline
namespace Go.Proofs.YtlpklloagaccoaaGreat
open Go.RowKit
set_option linter.unusedVariables false

/-- Its first cells refer to it. -/
structure SfU (S : EngS) (h b : Int) (n i : Nat) : Prop where
  G : Gd S [h, b]
  obj : ∃ x, S.ob h = some x ∧ x.cells = n ∧ (∀ j, j < i → x.val j = (3, h)) ∧ ∀ j, i ≤ j → (x.val j).1 ≠ 3
  toth : S.tot h = i
  totb : S.tot b = 0
  ne : h ≠ b
  lim : S.lim = 1000
  pend : S.pend = []
  sm : in64 h ∧ in64 b
  rb : refsA S b = []
/-- .. and the first one to the other object. -/
structure SfV (S : EngS) (h b : Int) (n : Nat) : Prop where
  G : Gd S [h, b]
  toth : S.tot h = (n : Int) - 1
  totb : S.tot b = 1
  ne : h ≠ b
  pend : S.pend = []
  rb : refsA S b = []
theorem SfU.first {L1 L2 : Al} {a b n : Nat} (hn : (makeA (newEng 20 1000) L1 a 7 n 0).ob (b : Int) = none) (ha : a < 262144) (hb : b < 262144) : SfU (makeA (makeA (newEng 20 1000) L1 a 7 n 0) L2 b 5 1 0) (a : Int) (b : Int) n 0 := by
  obtain ⟨G1, C1, _⟩ := (Gd.first 20 1000).make (L' := L1) (a := a) (kind := 7) (cells := n) (raw := 0) (by omega) (by simp) (Cl.first 20 1000)
  have hab : (b : Int) ∉ [] ++ [(a : Int)] := by
    intro h
    have := (G1.mem _).1 h
    rw [hn] at this
    obtain ⟨x, hx⟩ := this
    cases hx
  obtain ⟨G2, C2, r2⟩ := G1.make (L' := L2) (a := b) (kind := 5) (cells := 1) (raw := 0) (by omega) hab C1
  have hne : (a : Int) ≠ (b : Int) := fun e => hab (by rw [e]; simp)
  refine ⟨G2, ⟨newOb 7 n 0, ?_, rfl, fun j h => absurd h (Nat.not_lt_zero _), fun j _ h => (by cases h)⟩, rfl, rfl, hne, rfl, rfl, ⟨by unfold in64; omega, by unfold in64; omega⟩, ?_⟩
  · show updI (updI _ _ _) _ _ _ = _
    unfold updI
    rw [if_neg hne, if_pos rfl]
  · rw [r2]; exact refsA_none hn
theorem SfU.set {S : EngS} {h b : Int} {n i : Nat} (U : SfU S h b n i) (hi : i < n) (hn : n ≤ 20) {x : Ob} (hx : S.ob h = some x) (hc : x.cells = n) (h1 : ∀ j, j < i → x.val j = (3, h)) (h2 : ∀ j, i ≤ j → (x.val j).1 ≠ 3) : SfU (setA S h x i 3 h) h b n (i + 1) := by
  obtain ⟨G', hob, hr, _, ht, hl, _, hp, _⟩ := U.G.set hx (by omega) (h2 i (Nat.le_refl _)) (n := h) (by simp) (by rw [U.toth, U.lim]; omega)
  refine ⟨G', ⟨setVal x i (3, h), by rw [hob]; exact if_pos rfl, hc, fun j hj => ?_, fun j hj => ?_⟩, by rw [ht, U.toth, if_pos rfl]; omega, by rw [ht, U.totb, if_neg U.ne]; rfl, U.ne, hl.trans U.lim, hp.trans U.pend, U.sm, (hr b (fun e => U.ne e.symm)).trans U.rb⟩
  · show (if j = i then ((3 : Nat), h) else x.val j) = _
    by_cases e : j = i
    · rw [if_pos e]
    · rw [if_neg e]; exact h1 j (by omega)
  · show (if j = i then ((3 : Nat), h) else x.val j).1 ≠ 3
    rw [if_neg (by omega)]; exact h2 j (by omega)
theorem SfU.last {S : EngS} {h b : Int} {n : Nat} (U : SfU S h b n n) (hn1 : 1 ≤ n) {x : Ob} (hx : S.ob h = some x) (hc : x.cells = n) (h1 : ∀ j, j < n → x.val j = (3, h)) : SfV (setA S h x 0 3 b) h b n := by
  obtain ⟨G', hob, hr, _, ht, hp⟩ := U.G.reset hx (i := 0) (by omega) (h1 0 (by omega)) (by simp) (n := b) (by simp) (by rw [U.totb, U.lim]; omega)
  refine ⟨G', by rw [ht, U.toth, if_neg (fun e => U.ne e.symm), if_pos rfl]; omega, by rw [ht, U.totb, if_pos rfl, if_neg U.ne]; rfl, U.ne, hp.trans U.pend, (hr b (fun e => U.ne e.symm)).trans U.rb⟩
theorem SfV.zeros {S : EngS} {h b : Int} {n : Nat} (V : SfV S h b n) (hn1 : 1 ≤ n) {xs : List Int} (hs : SetL S.Z xs) : xs.length = if n = 1 then 1 else 0 := by
  have hz : ∀ k, S.Z k = true ↔ k = h ∧ n = 1 := fun k => by
    rw [V.G.zero k]
    simp only [List.mem_cons, List.not_mem_nil, or_false]
    constructor
    · rintro ⟨rfl | rfl, h2⟩
      · exact ⟨rfl, by rw [V.toth] at h2; omega⟩
      · rw [V.totb] at h2; omega
    · rintro ⟨rfl, h2⟩
      exact ⟨.inl rfl, by rw [V.toth]; omega⟩
  by_cases e : n = 1
  · rw [if_pos e, hs.one h (fun k => by rw [hz k]; exact ⟨fun z => z.1, fun z => ⟨z, e⟩⟩)]; rfl
  · rw [if_neg e, hs.none fun k => by
      cases hk : S.Z k with
      | false => rfl
      | true => exact absurd ((hz k).1 hk).2 e]; rfl
theorem SfV.free {S : EngS} {h b : Int} {n : Nat} (V : SfV S h b n) : (∃ y, (freeA S h).ob b = some y) ∧ (freeA S h).tot b = 0 ∧ ∀ k, isOb (freeA S h).ob k = true ↔ k = b := by
  obtain ⟨G', hob, hr, _⟩ := V.G.free (h := h) (by simp)
  have he : [h, b].erase h = [b] := by simp
  rw [he] at G'
  have hb := (G'.mem b).1 (by simp)
  refine ⟨hb, ?_, fun k => ?_⟩
  · rw [G'.cnt b (by simp)]
    show ((((refsA (freeA S h) b).count b + 0 : Nat)) : Int) = 0
    rw [hr b (fun e => V.ne e.symm), V.rb]; rfl
  · unfold isOb
    rw [Option.isSome_iff_exists, ← G'.mem k]
    simp
def SfUAt (o : Own) (w : World) (p : Nat) (h b : Int) (n i : Nat) : Prop := ∃ S, EngRep o w 1 p S ∧ SfU S h b n i
def SfVAt (o : Own) (w : World) (p : Nat) (h b : Int) (n : Nat) : Prop := ∃ S, EngRep o w 1 p S ∧ SfV S h b n
def SfWAt (o : Own) (w : World) (p : Nat) (b : Int) : Prop := ∃ S, EngRep o w 1 p S ∧ (∃ y, S.ob b = some y) ∧ S.tot b = 0 ∧ ∀ k, isOb S.ob k = true ↔ k = b
section
variable {o : Own} {p : Nat} {h b : Int} {n i : Nat}
theorem sf_make (ni : Int) (e : ni = (n : Nat)) (hn : n ≤ 20) (w0 w1 : World) (F : Fr 0 0 o o w0 w1) (E : EngRep o w0 1 p (newEng 20 1000)) :
    Calls Tryz.prog 66 #[.pointer (some ⟨p, 0, none⟩), .int .i64 7, .int .i64 ni, .int .i64 0] w1 fun e w' => ∃ (a : Nat) (L' : Al) (o' : Own), e = .returned (.tuple #[.int .i64 (a : Nat), .int .i64 0]) ∧ Fr 1 30 o o' w0 w' ∧ EngRep o' w' 1 p (makeA (newEng 20 1000) L' a 7 n 0) ∧ a < 262144 ∧ L'.ok = true ∧ L'.n = 20 ∧ L'.t ≤ 2 := by
  have hw : wordsN n 0 ≤ 41 := by unfold wordsN; omega
  obtain ⟨L', a, hT, ht2, _⟩ := tookL_room (newEng 20 1000).L (wordsN n 0) (by show 1 + (wordsN n 0 / 64 + 1) ≤ 20; omega)
  refine (rmake 7 n 0 7 ni 0 rfl e rfl L' a w1 F.fresh (E.keep F (.inr (Nat.zero_le _))) rfl (by omega) (by omega) (by omega) hT).mono fun e w' hh => ?_
  obtain ⟨⟨h1, o', F', E'⟩, h2, _, h4, h5, h6⟩ := hh
  have ht3 : L'.t ≤ 1 + (wordsN n 0 / 64 + 1) := ht2
  exact ⟨_, _, o', h1, (F.none 1 30).trans F', E', h4, h5, h6, by omega⟩
theorem sf_box {a : Nat} {L1 : Al} (w0 w1 : World) (F : Fr 0 0 o o w0 w1) (E : EngRep o w0 1 p (makeA (newEng 20 1000) L1 a 7 n 0)) (ha : a < 262144) (hok : L1.ok = true) (hn : L1.n = 20) (ht : L1.t ≤ 2) :
    Calls Tryz.prog 66 #[.pointer (some ⟨p, 0, none⟩), .int .i64 5, .int .i64 1, .int .i64 0] w1 fun e w' => ∃ (b : Int) (o' : Own), e = .returned (.tuple #[.int .i64 b, .int .i64 0]) ∧ Fr 1 30 o o' w0 w' ∧ SfUAt o' w' p (a : Int) b n 0 := by
  obtain ⟨L', b, hT, ht2, _⟩ := tookL_room (makeA (newEng 20 1000) L1 a 7 n 0).L (wordsN 1 0) (by show L1.t + (4 / 64 + 1) ≤ L1.n; omega)
  refine (rmake 5 1 0 5 1 0 rfl rfl rfl L' b w1 F.fresh (E.keep F (.inr (Nat.zero_le _))) hok (by omega) (by omega) (by omega) hT).mono fun e w' hh => ?_
  obtain ⟨⟨h1, o', F', E'⟩, h2, _, h4, h5, h6⟩ := hh
  exact ⟨_, o', h1, (F.none 1 30).trans F', _, E', SfU.first h2 ha h4⟩
theorem sf_set (w0 w1 : World) (F : Fr 0 0 o o w0 w1) (A : SfUAt o w0 p h b n i) (hi : i < n) (hn : n ≤ 20) :
    Calls Tryz.prog 68 #[.pointer (some ⟨p, 0, none⟩), .int .i64 h, .int .i64 (i : Nat), .agg #[.int .i64 3, .int .i64 h]] w1 fun e w' => ∃ o', e = .returned (.int .i64 0) ∧ Fr 1 30 o o' w0 w' ∧ SfUAt o' w' p h b n (i + 1) := by
  obtain ⟨S, E, U⟩ := A
  obtain ⟨x, hx, hc, h1, h2⟩ := U.obj
  refine (rset h (i : Nat) x i 3 h w1 (by omega) F.fresh (E.keep F (.inr (Nat.zero_le _))) hx rfl (by omega) (by omega) U.sm.1 (fun _ => ⟨x, hx⟩) (fun _ e => absurd e (h2 i (Nat.le_refl _)))).mono fun e w' hh => ?_
  obtain ⟨h3, o', F', E'⟩ := hh
  exact ⟨o', h3, (F.none 1 30).trans F', _, E', U.set hi hn hx hc h1 h2⟩
theorem sf_last (w0 w1 : World) (F : Fr 0 0 o o w0 w1) (A : SfUAt o w0 p h b n n) (hn1 : 1 ≤ n) :
    Calls Tryz.prog 68 #[.pointer (some ⟨p, 0, none⟩), .int .i64 h, .int .i64 0, .agg #[.int .i64 3, .int .i64 b]] w1 fun e w' => ∃ o', e = .returned (.int .i64 0) ∧ Fr 1 30 o o' w0 w' ∧ SfVAt o' w' p h b n := by
  obtain ⟨S, E, U⟩ := A
  obtain ⟨x, hx, hc, h1, h2⟩ := U.obj
  refine (rset h 0 x 0 3 b w1 (by omega) F.fresh (E.keep F (.inr (Nat.zero_le _))) hx rfl (by omega) (by omega) U.sm.2 (fun _ => (U.G.mem b).1 (by simp)) (fun _ _ => by rw [h1 0 (by omega)]; exact ⟨x, hx⟩)).mono fun e w' hh => ?_
  obtain ⟨h3, o', F', E'⟩ := hh
  exact ⟨o', h3, (F.none 1 30).trans F', _, E', U.last hn1 hx hc h1⟩
theorem sf_counth (w0 w1 : World) (F : Fr 0 0 o o w0 w1) (A : SfVAt o w0 p h b n) :
    Calls Tryz.prog 39 #[.pointer (some ⟨p, 0, none⟩), .int .i64 h] w1 fun e w' => ∃ s, e = .returned (.tuple #[.int .i64 ((n : Int) - 1), .bool s]) ∧ Fr 0 0 o o w0 w' := by
  obtain ⟨S, E, V⟩ := A
  obtain ⟨y, hy⟩ := (V.G.mem h).1 (by simp)
  exact (rcount _ y w1 F.fresh (E.keep F (.inr (Nat.zero_le _))) hy).mono fun e w' hh => ⟨S.st h, by rw [hh.1, V.toth], F.below hh.2⟩
theorem sf_countb (w0 w1 : World) (F : Fr 0 0 o o w0 w1) (A : SfVAt o w0 p h b n) :
    Calls Tryz.prog 39 #[.pointer (some ⟨p, 0, none⟩), .int .i64 b] w1 fun e w' => ∃ s, e = .returned (.tuple #[.int .i64 1, .bool s]) ∧ Fr 0 0 o o w0 w' := by
  obtain ⟨S, E, V⟩ := A
  obtain ⟨y, hy⟩ := (V.G.mem b).1 (by simp)
  exact (rcount _ y w1 F.fresh (E.keep F (.inr (Nat.zero_le _))) hy).mono fun e w' hh => ⟨S.st b, by rw [hh.1, V.totb], F.below hh.2⟩
theorem sf_zeros (w0 w1 : World) (F : Fr 0 0 o o w0 w1) (A : SfVAt o w0 p h b n) (hn1 : 1 ≤ n) :
    Calls Tryz.prog 69 #[.pointer (some ⟨p, 0, none⟩)] w1 fun e w' => ∃ A cap, e = .returned (.slice A (if n = 1 then 1 else 0) cap) ∧ Fr 0 0 o o w0 w' := by
  obtain ⟨S, E, V⟩ := A
  refine (rzeros w1 F.fresh (E.keep F (.inr (Nat.zero_le _)))).mono fun e w' hh => ?_
  obtain ⟨v, xs, h1, h2, h3, h4⟩ := hh
  obtain ⟨A, cap, hv, _⟩ := h4.row.rd
  exact ⟨A, cap, by rw [h1, hv, V.zeros hn1 h2], F.trans h3⟩
theorem sf_free (w0 w1 : World) (F : Fr 0 0 o o w0 w1) (A : SfVAt o w0 p h b n) :
    Calls Tryz.prog 81 #[.pointer (some ⟨p, 0, none⟩), .int .i64 h] w1 fun e w' => ∃ o', e = .returned (.int .i64 0) ∧ Fr 1 30 o o' w0 w' ∧ SfWAt o' w' p b := by
  obtain ⟨S, E, V⟩ := A
  obtain ⟨y, hy⟩ := (V.G.mem h).1 (by simp)
  refine (rfree h y w1 (by omega) F.fresh (E.keep F (.inr (Nat.zero_le _))) hy (by rw [V.pend]; simp)).mono fun e w' hh => ?_
  obtain ⟨h1, o', F', E'⟩ := hh
  exact ⟨o', h1, (F.none 1 30).trans F', _, E', V.free⟩
theorem sf_count0 (w0 w1 : World) (F : Fr 0 0 o o w0 w1) (A : SfWAt o w0 p b) :
    Calls Tryz.prog 39 #[.pointer (some ⟨p, 0, none⟩), .int .i64 b] w1 fun e w' => ∃ s, e = .returned (.tuple #[.int .i64 0, .bool s]) ∧ Fr 0 0 o o w0 w' := by
  obtain ⟨S, E, ⟨y, hy⟩, ht, _⟩ := A
  exact (rcount _ y w1 F.fresh (E.keep F (.inr (Nat.zero_le _))) hy).mono fun e w' hh => ⟨S.st b, by rw [hh.1, ht], F.below hh.2⟩
theorem sf_all (w0 w1 : World) (F : Fr 0 0 o o w0 w1) (A : SfWAt o w0 p b) :
    Calls Tryz.prog 74 #[.pointer (some ⟨p, 0, none⟩)] w1 fun e w' => ∃ g cap, e = .returned (.slice (some ⟨g, 0, none⟩) 1 cap) ∧ g < w'.heap.size ∧ w'.cell? ⟨g, 0, none⟩ = some (.int .i64 b) ∧ Fr 0 0 o o w0 w' := by
  obtain ⟨S, E, _, _, hi⟩ := A
  refine (rall w1 (by omega) F.fresh (E.keep F (.inr (Nat.zero_le _)))).mono fun e w' hh => ?_
  obtain ⟨A, cap, hs, h1, h2, h3, _, h5⟩ := hh
  obtain rfl := h2.one b hi
  obtain ⟨g, rfl, hg, hc⟩ := h5 0 (by simp)
  exact ⟨g, cap, h1, hg, hc, F.trans h3⟩
end
end Go.Proofs.YtlpklloagaccoaaGreat
