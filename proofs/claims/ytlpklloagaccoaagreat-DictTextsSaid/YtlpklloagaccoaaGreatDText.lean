/- A dict whose keys are texts: what is known of the engine, calls. Conditions: a hundred pages; sixty texts of fifty bytes at most. -/
import Derived.Test.YtlpklloagaccoaaGreatDict6
import Derived.Test.YtlpklloagaccoaaGreatText2
namespace Go.Proofs.YtlpklloagaccoaaGreat
open Go.RowKit
set_option linter.unusedVariables false

theorem KeyOk.more {S S' : EngS} {a : Nat × Int} (h : KeyOk S a) (e : ∀ m z, S.ob m = some z → z.kind = 1 → S'.ob m = some z) : KeyOk S' a := ⟨h.1, fun h3 => by
  obtain ⟨x, h4, h5⟩ := h.2 h3
  exact ⟨x, e _ _ h4 h5, h5⟩⟩
/-- All objects stay. -/
theorem DS.stay {S S' : EngS} {h : Int} {ks vs : Nat → Nat × Int} {n c : Nat} {s : Int} (A : DS S h ks vs n c s) (e : ∀ m z, S.ob m = some z → S'.ob m = some z) (hok : S'.L.ok = true) : DS S' h ks vs n c s := by
  have hv : ∀ (q : Nat) (v : Int), ValOk S q v → ValOk S' q v := fun q v h => ⟨h.q3, h.n64, fun h3 => by
    obtain ⟨y, hy⟩ := h.ref h3
    exact ⟨y, e _ _ hy⟩⟩
  obtain ⟨x, B⟩ := A.ex
  refine ⟨⟨x, ⟨⟨e _ _ B.st.ob, B.st.two, B.st.none_, fun h0 => ?_⟩, B.kind, B.len, B.nc, B.c4⟩⟩, fun h0 => ?_, A.hs, hok, fun i hi => ⟨(A.keys i hi).1.more fun m z h _ => e m z h, hv _ _ (A.keys i hi).2⟩, fun i hi => hv _ _ (A.vals i hi)⟩
  · obtain ⟨y, y1, y2⟩ := (B.st.some_ h0).2
    exact ⟨(B.st.some_ h0).1, y, e _ _ y1, y2⟩
  · obtain ⟨y, y1, y2⟩ := A.st h0
    exact ⟨y, e _ _ y1, y2⟩
/-- A text in the engine, and its string. -/
def IsT (S : EngS) (x : Int) (t : ByteArray) : Prop := ∃ z, S.ob x = some z ∧ z.kind = 1 ∧ strB z.raw z.byte = t
def ssAt (ss : List ByteArray) (i : Nat) : ByteArray := ss.getD i ⟨#[]⟩
/-- The dict: its keys' strings, its values; u pages are gone for texts. -/
structure DTS (S : EngS) (a : Int) (ss : List ByteArray) (vs : Nat → Nat × Int) (u : Nat) (ks : Nat → Nat × Int) (c : Nat) (s : Int) : Prop where
  ds : DS S a ks vs ss.length c s
  n : S.L.n = 100
  gd : GD u c S.L.t
  key : ∀ i, i < ss.length → (ks i).1 = 3 ∧ IsT S (ks i).2 (ssAt ss i)
def DT (o : Own) (w : World) (p : Nat) (a : Int) (ss : List ByteArray) (vs : Nat → Nat × Int) (u : Nat) : Prop := ∃ S ks c s, EngRep o w 1 p S ∧ DTS S a ss vs u ks c s
/-- .. and one more text. -/
def DTX (o : Own) (w : World) (p : Nat) (a : Int) (ss : List ByteArray) (vs : Nat → Nat × Int) (u : Nat) (x : Int) (t : ByteArray) : Prop := ∃ S ks c s, EngRep o w 1 p S ∧ DTS S a ss vs u ks c s ∧ IsT S x t ∧ in64 x
theorem DT.keep {lo hi : Nat} {o o' : Own} {w w' : World} {p u : Nat} {a : Int} {ss : List ByteArray} {vs : Nat → Nat × Int} (h : DT o w p a ss vs u) (k : Fr lo hi o o' w w') (hr : 30 ≤ lo ∨ hi ≤ 1) : DT o' w' p a ss vs u := let ⟨S, ks, c, s, E, M⟩ := h; ⟨S, ks, c, s, E.keep k (by omega), M⟩
theorem DTX.keep {lo hi : Nat} {o o' : Own} {w w' : World} {p u : Nat} {a x : Int} {t : ByteArray} {ss : List ByteArray} {vs : Nat → Nat × Int} (h : DTX o w p a ss vs u x t) (k : Fr lo hi o o' w w') (hr : 30 ≤ lo ∨ hi ≤ 1) : DTX o' w' p a ss vs u x t := let ⟨S, ks, c, s, E, M⟩ := h; ⟨S, ks, c, s, E.keep k (by omega), M⟩
theorem DTX.dt {o : Own} {w : World} {p u : Nat} {a x : Int} {t : ByteArray} {ss : List ByteArray} {vs : Nat → Nat × Int} (h : DTX o w p a ss vs u x t) : DT o w p a ss vs u := let ⟨S, ks, c, s, E, M, _⟩ := h; ⟨S, ks, c, s, E, M⟩
/-- The first one that is this. -/
structure FndT (ss : List ByteArray) (t : ByteArray) (i : Nat) : Prop where
  le : i ≤ ss.length
  no : ∀ j, j < i → sameS (ssAt ss j) t = false
  yes : i < ss.length → sameS (ssAt ss i) t = true
theorem FndT.one {ss : List ByteArray} {t : ByteArray} {i j : Nat} (h : FndT ss t i) (k : FndT ss t j) : i = j := by
  rcases Nat.lt_trichotomy i j with h1 | h1 | h1
  · exact absurd (h.yes (by have := k.le; omega)) (by rw [k.no i h1]; decide)
  · exact h1
  · exact absurd (k.yes (by have := h.le; omega)) (by rw [h.no j h1]; decide)
theorem IsT.same {S : EngS} {a b : Int} {s t : ByteArray} (h : IsT S a s) (k : IsT S b t) : sameK S (3, a) (3, b) = sameS s t := by
  obtain ⟨x, h1, _, h2⟩ := h
  obtain ⟨y, k1, _, k2⟩ := k
  unfold sameK
  rw [if_pos ⟨rfl, rfl⟩, h1, k1, ← h2, ← k2]
section
variable {S : EngS} {a : Int} {ss : List ByteArray} {vs ks : Nat → Nat × Int} {u c : Nat} {s : Int}
theorem DTS.fnd (M : DTS S a ss vs u ks c s) {x : Int} {t : ByteArray} (hx : IsT S x t) {i : Nat} (F : Found S ks (3, x) ss.length i) : FndT ss t i := by
  have hk : ∀ j, j < ss.length → sameK S (ks j) (3, x) = sameS (ssAt ss j) t := fun j hj => by
    obtain ⟨h1, h2⟩ := M.key j hj
    have h3 := h2.same hx
    have h4 : ks j = (3, (ks j).2) := by rw [← h1]
    rw [h4]
    exact h3
  exact ⟨F.le, fun j hj => by rw [← hk j (by have := F.le; omega)]; exact F.no j hj, fun hi => by rw [← hk i hi]; exact F.yes hi⟩
end
section
variable {o : Own} {p u : Nat} {a x : Int} {t : ByteArray} {ss : List ByteArray} {vs : Nat → Nat × Int}
theorem dt_new {w : World} (ho : Owned o w) (E : EngRep o w 1 p (newEng 100 1000)) :
    Calls Tryz.prog 41 #[.pointer (some ⟨p, 0, none⟩)] w fun e w' => ∃ (a : Nat) (o' : Own), e = .returned (.tuple #[.int .i64 (a : Nat), .int .i64 0]) ∧ Fr 1 30 o o' w w' ∧ DT o' w' p (a : Int) [] (fun _ => (0, 0)) 0 := by
  obtain ⟨L', a, hT, ht, _⟩ := tookL_room (newAl 100) (wordsN 2 0) (by show 1 + (5 / 64 + 1) ≤ 100; omega)
  refine (dnew L' a w (by omega) ho E rfl hT).mono fun e w' hh => ?_
  obtain ⟨⟨h1, o', F, E'⟩, hnew, h64, h26, hok', hLn⟩ := hh
  exact ⟨a, o', h1, F, _, fun _ => (0, 0), 0, 0, E', DS.made h64 hok' _ _, hLn, .inl ⟨rfl, ht⟩, fun i hi => absurd hi (Nat.not_lt_zero _)⟩
theorem dt_len (w0 w1 : World) (F : Fr 0 0 o o w0 w1) (A : DT o w0 p a ss vs u) :
    Calls Tryz.prog 46 #[.pointer (some ⟨p, 0, none⟩), .int .i64 a] w1 fun e w' => e = .returned (.tuple #[.int .i64 (ss.length : Nat), .int .i64 0]) ∧ Fr 0 0 o o w0 w' := by
  obtain ⟨S, ks, c, s, E, M⟩ := A
  obtain ⟨x, B⟩ := M.ds.ex
  exact (dlen w1 F.fresh (E.keep F (.inr (Nat.zero_le _))) B).mono fun e w' hh => ⟨hh.1, F.below hh.2⟩
theorem dt_text (A : Option Addr) (n cap : Nat) (f : Nat → Nat) (w0 w1 : World) (F : Fr 0 0 o o w0 w1) (D : DT o w0 p a ss vs u) (hn : n ≤ 50) (hu : u < 60) (hs : ss.length ≤ 30) (B : BSl o w1 (.slice A n cap) n f) :
    Calls Tryz.prog 37 #[.pointer (some ⟨p, 0, none⟩), .slice A n cap] w1 fun e w' => ∃ (x : Int) (o' : Own), e = .returned (.tuple #[.int .i64 x, .int .i64 0]) ∧ Fr 1 30 o o' w0 w' ∧ DTX o' w' p a ss vs (u + 1) x (strB n f) := by
  obtain ⟨S, ks, c, s, E, M⟩ := D
  have hw : wordsN 0 n = 1 + 2 * 0 + (n + 7) / 8 := rfl
  have ht : S.L.t + 1 ≤ S.L.n := by
    rw [M.n]
    have h1 := M.gd
    unfold GD at h1
    omega
  obtain ⟨L', b, hT, ht2, _⟩ := tookL_room S.L (wordsN 0 n) (by omega)
  refine (text_new A n cap f L' b w1 (by omega) (by omega) F.fresh (E.keep F (.inr (Nat.zero_le _))) M.ds.ok (by omega) hT B).mono fun e w' hh => ?_
  obtain ⟨⟨k1, o', F', E'⟩, k2, k3, k4, k5, k6⟩ := hh
  have hob : ∀ m z, S.ob m = some z → (textA S L' b n f).ob m = some z := fun m z hz => by
    rw [textA_ob]
    unfold updI
    rw [if_neg (fun e => by rw [e, k2] at hz; cases hz)]
    exact hz
  refine ⟨(b : Int), o', k1, (F.none 1 30).trans F', _, ks, c, s, E', ⟨M.ds.stay hob k5, k6.trans M.n, M.gd.more (by show L'.t + u ≤ S.L.t + (u + 1); omega), fun i hi => ?_⟩, ⟨textOb n f, ?_, rfl, strB_congr fun i hi => if_pos hi⟩, by unfold in64; omega⟩
  · obtain ⟨h1, z, h2, h3, h4⟩ := M.key i hi
    exact ⟨h1, z, hob _ _ h2, h3, h4⟩
  · rw [textA_ob]
    exact if_pos rfl
theorem dt_get (w0 w1 : World) (F : Fr 0 0 o o w0 w1) (D : DTX o w0 p a ss vs u x t) :
    Calls Tryz.prog 42 #[.pointer (some ⟨p, 0, none⟩), .int .i64 a, .agg #[.int .i64 3, .int .i64 x]] w1 fun e w' => ∃ i, FndT ss t i ∧ e = .returned (getA vs ss.length i) ∧ Fr 0 0 o o w0 w' := by
  obtain ⟨S, ks, c, s, E, M, hx, _⟩ := D
  refine (ds_get (3, x) w1 F.fresh (E.keep F (.inr (Nat.zero_le _))) M.ds ⟨by omega, fun _ => by obtain ⟨z, h1, h2, _⟩ := hx; exact ⟨z, h1, h2⟩⟩).mono fun e w' hh => ?_
  obtain ⟨i, h1, h2, h3⟩ := hh
  exact ⟨i, M.fnd hx h1, h2, F.below h3⟩
theorem dt_put (v : Int) (w0 w1 : World) (F : Fr 0 0 o o w0 w1) (D : DTX o w0 p a ss vs u x t) (hv : in64 v) (hs : ss.length < 30) (hu : u ≤ 60) :
    Calls Tryz.prog 44 #[.pointer (some ⟨p, 0, none⟩), .int .i64 a, .agg #[.int .i64 3, .int .i64 x], .agg #[.int .i64 1, .int .i64 v]] w1 fun e w' => ∃ i o', FndT ss t i ∧ e = .returned (.int .i64 0) ∧ Fr 1 30 o o' w0 w' ∧ ((i < ss.length ∧ DT o' w' p a ss (updF vs i (1, v)) u) ∨ (i = ss.length ∧ DT o' w' p a (ss ++ [t]) (updF vs i (1, v)) u)) := by
  obtain ⟨S, ks, c, s, E, M, hx, hx64⟩ := D
  have hev := M.gd.even
  obtain ⟨z, hz, hzk, hzs⟩ := hx
  have hstep : c < 2 * ss.length + 2 → ∃ L' a, tookL S.L (wordsN (moreN c 8) 0) = some (L', a) ∧ GD u (moreN c 8) L'.t := fun hc => M.gd.step hc (by rw [M.n]; omega)
  refine (ds_put (3, x) (1, v) w1 (by omega) F.fresh (E.keep F (.inr (Nat.zero_le _))) M.ds ⟨by omega, fun _ => ⟨z, hz, hzk⟩⟩ ⟨by omega, hx64, fun _ => ⟨z, hz⟩⟩ ⟨by omega, hv, fun e => by omega⟩ (by omega) hev.1 (fun hc => ⟨by omega, by obtain ⟨L', t, h1, _⟩ := hstep hc; exact ⟨L', t, h1⟩⟩)).mono fun e w' hh => ?_
  obtain ⟨i, S', hf, ⟨h1, o', F2, E'⟩, hst, hcase⟩ := hh
  have hfn := M.fnd ⟨z, hz, hzk, hzs⟩ hf
  have hkey : ∀ j, j < ss.length → (ks j).1 = 3 ∧ IsT S' (ks j).2 (ssAt ss j) := fun j hj => by
    obtain ⟨g1, y, g2, g3, g4⟩ := M.key j hj
    exact ⟨g1, y, hst _ _ g2 g3, g3, g4⟩
  refine ⟨i, o', hfn, h1, (F.none 1 30).trans F2, ?_⟩
  rcases hcase with ⟨hi, hL', hD⟩ | ⟨hi, c', s', hD, hc'⟩
  · exact .inl ⟨hi, S', ks, c, s, E', hD, by rw [hL']; exact M.n, by rw [hL']; exact M.gd, hkey⟩
  · refine .inr ⟨hi, S', updF ks ss.length (3, x), c', s', E', ?_, ?_, ?_, fun j hj => ?_⟩
    · rw [hi, List.length_append]; exact hD
    · rcases hc' with ⟨_, rfl, hL'⟩ | ⟨hc, rfl, hLn, t, hT⟩
      · rw [hL']; exact M.n
      · exact hLn.trans M.n
    · rcases hc' with ⟨_, rfl, hL'⟩ | ⟨hc, rfl, hLn, t, hT⟩
      · rw [hL']; exact M.gd
      · obtain ⟨L', t', h2, h3⟩ := hstep hc
        rw [h2] at hT
        cases hT
        exact h3
    · rw [List.length_append, List.length_singleton] at hj
      unfold updF
      by_cases e : j = ss.length
      · rw [if_pos e]
        refine ⟨rfl, z, hst _ _ hz hzk, hzk, ?_⟩
        rw [hzs, e]
        unfold ssAt
        simp
      · rw [if_neg e]
        have := hkey j (by omega)
        unfold ssAt at this ⊢
        have h9 : (ss ++ [t]).getD j ⟨#[]⟩ = ss.getD j ⟨#[]⟩ := by simp [List.getD, List.getElem?_append_left (show j < ss.length by omega)]
        rw [h9]
        exact this
/-! ### a key that is none -/
theorem ds_no (v : Nat × Int) {S : EngS} {ks : Nat → Nat × Int} {n c : Nat} {s : Int} (w : World) (ho : Owned o w) (E : EngRep o w 1 p S) (A : DS S a ks vs n c s) (hv : v.1 ≤ 2) :
    Calls Tryz.prog 98 #[.pointer (some ⟨p, 0, none⟩), .int .i64 a, valV 3 a, valV v.1 v.2] w fun e w' => e = .returned (.int .i64 13) ∧ Fr 0 0 o o w w' :=
  (dmay a (3, a) v false w ho E A.kind (by omega) (fun e => by omega) (fun w1 F => (dkey_no a w1 F.fresh (E.keep F (.inr (Nat.zero_le _))) (by rw [A.kind]; omega)).mono fun e w' hh => hh)).mono fun e w' hh => hh
set_option maxRecDepth 100000 in
theorem dt_get_no (w0 w1 : World) (F : Fr 0 0 o o w0 w1) (D : DT o w0 p a ss vs u) :
    Calls Tryz.prog 42 #[.pointer (some ⟨p, 0, none⟩), .int .i64 a, valV 3 a] w1 fun e w' => e = .returned (.tuple #[valV 0 0, .int .i64 13]) ∧ Fr 0 0 o o w0 w' := by
  obtain ⟨S, ks, c, s, E, M⟩ := D
  have HM := Lib.hid (fun (w2 : World) (F2 : Fr 0 0 o o w1 w2) => ds_no (0, 0) w2 F2.fresh ((E.keep F (.inr (Nat.zero_le _))).keep F2 (.inr (Nat.zero_le _))) M.ds (by show 0 ≤ 2; omega))
  have HO := Lib.hid F.fresh
  have HF := Lib.hid F
  clear E M F
  go_enter Tryz.func42, Tryz.ntmps42
  go_wp2_with fail
  go_at_call 98
  refine (HM.out _ (by repeat (first | exact Fr.refl HO.out | refine Fr.drew ?_ | refine Fr.alloc ?_ _))).mono ?_
  rintro e w2 ⟨rfl, F2⟩
  have HX := Lib.hid ((Box2.base HO.out (3 : Int) a 0 0).fr0 F2)
  have R1 := HX.out.b1
  unfold vX at R1
  have z0 : w2.frozen? ⟨w1.heap.size + 1, 0, none⟩ = false := by simp [World.frozen?, R1]
  have z1 : w2.frozen? ⟨w1.heap.size + 1, 1, none⟩ = false := by simp [World.frozen?, R1]
  have y0 : w2.cell? ⟨w1.heap.size + 1, 0, none⟩ = some (.int .i64 0) := by simp [World.cell?, R1]
  have y1 : w2.cell? ⟨w1.heap.size + 1, 1, none⟩ = some (.int .i64 0) := by simp [World.cell?, R1]
  have HB2 := Lib.hid HX.out.fr.below0
  clear R1 F2
  go_wp2_with fail
  refine bodyPost_ret (v := .tuple #[valV 0 0, .int .i64 13]) ?_ rfl ⟨rfl, HF.out.below ?_⟩
  · simp [results, Tryz.results42, go_sem, y0, y1, valV]
  · exact ((HB2.out).setCell (by show _ ≤ w1.heap.size + 1; omega) _).setCell (by show _ ≤ w1.heap.size + 1; omega) _
set_option maxRecDepth 100000 in
theorem dt_put_no (w0 w1 : World) (F : Fr 0 0 o o w0 w1) (D : DT o w0 p a ss vs u) :
    Calls Tryz.prog 44 #[.pointer (some ⟨p, 0, none⟩), .int .i64 a, valV 3 a, valV 0 0] w1 fun e w' => e = .returned (.int .i64 13) ∧ Fr 0 0 o o w0 w' := by
  obtain ⟨S, ks, c, s, E, M⟩ := D
  have HM := Lib.hid (fun (w2 : World) (F2 : Fr 0 0 o o w1 w2) => ds_no (0, 0) w2 F2.fresh ((E.keep F (.inr (Nat.zero_le _))).keep F2 (.inr (Nat.zero_le _))) M.ds (by show 0 ≤ 2; omega))
  have HO := Lib.hid F.fresh
  have HF := Lib.hid F
  clear E M F
  go_enter Tryz.func44, Tryz.ntmps44
  go_wp2_with fail
  go_at_call 98
  refine (HM.out _ (by repeat (first | exact Fr.refl HO.out | refine Fr.drew ?_ | refine Fr.alloc ?_ _))).mono ?_
  rintro e w2 ⟨rfl, F2⟩
  have HX := Lib.hid ((Box2.base HO.out (3 : Int) a 0 0).fr0 F2)
  clear F2
  go_wp2_with fail
  go_ret
  exact ⟨rfl, HF.out.trans HX.out.fr⟩
end
end Go.Proofs.YtlpklloagaccoaaGreat
