/- Keys that are one (value.Same, dict.same, Key). Conditions: the engine is as one that was made; keys that refer refer to texts. Dicts: their keys are looked for (dict.Len, find). Conditions: the engine is as one that was made; the dict is one. Dicts are read and written (dict.Get, Put where the key is there). Conditions: the engine is as one that was made; the dict is one; keys are keys. -/
import Derived.Test.YtlpklloagaccoaaGreatText2
import Derived.Test.YtlpklloagaccoaaGreatList2
import Derived.Test.YtlpklloagaccoaaGreatSl
import Derived.Outline
import Derived.Test.YtlpklloagaccoaaGreatList5
namespace Go.Proofs.YtlpklloagaccoaaGreat
open Go.RowKit
set_option linter.unusedVariables false

def vsame (a b c d : Int) : Bool := a == c && (a == 0 || b == d)
theorem valsame (a b c d : Int) (w : World) : Calls Tryz.prog 188 #[valV a b, valV c d] w fun e w' => e = .returned (.bool (vsame a b c d)) ∧ Below w.heap.size w w' := by
  go_enter Tryz.func188, Tryz.ntmps188
  go_wp2
  all_goals
    go_ret
    exact ⟨ret_bool (by unfold vsame; simp_all), by repeat (first | exact Below.refl _ _ | refine Below.alloc ?_ (by first | omega | (simp; done) | (simp; omega)) _ | refine Below.drew ?_)⟩
/-- Keys that are one. -/
def sameK (S : EngS) (a b : Nat × Int) : Bool :=
  if a.1 = 3 ∧ b.1 = 3 then sameS (match S.ob a.2 with | some x => strB x.raw x.byte | none => ⟨#[]⟩) (match S.ob b.2 with | some x => strB x.raw x.byte | none => ⟨#[]⟩)
  else vsame a.1 a.2 b.1 b.2
/-- A key: nil, a number, a truth, or a text. -/
def KeyOk (S : EngS) (a : Nat × Int) : Prop := a.1 ≤ 3 ∧ (a.1 = 3 → ∃ x, S.ob a.2 = some x ∧ x.kind = 1)
theorem same_val {p : Nat} (a b : Nat × Int) (w : World) (h : ¬ (a.1 = 3 ∧ b.1 = 3)) :
    Calls Tryz.prog 154 #[.pointer (some ⟨p, 0, none⟩), valV a.1 a.2, valV b.1 b.2] w fun e w' => e = .returned (.bool (vsame a.1 a.2 b.1 b.2)) ∧ Below w.heap.size w w' := by
  have HV := Lib.hid (fun w1 => valsame a.1 a.2 b.1 b.2 w1)
  obtain ⟨q1, n1⟩ := a
  obtain ⟨q2, n2⟩ := b
  simp only at h HV ⊢
  have h1 : ((q1 : Int) != 3) = true ∨ (((q1 : Int) != 3) = false ∧ ((q2 : Int) != 3) = true) := by
    by_cases e : q1 = 3
    · exact .inr ⟨by simp [e], by simp; omega⟩
    · exact .inl (by simp; omega)
  have HR := Lib.hid (fun (w1 w2 : World) (hw : Below w.heap.size w w1) (hb : Below w1.heap.size w1 w2) => hw.trans (hb.mono hw.size))
  clear h
  rcases h1 with h1 | ⟨h1, h2⟩
  all_goals
    go_enter Tryz.func154, Tryz.ntmps154
    go_wp2_with (go_at_call 188; refine (HV.out _).mono ?_; rintro e w2 ⟨rfl, hb⟩; have HB := Lib.hid hb; clear hb)
    all_goals
      go_ret
      exact ⟨rfl, HR.out _ _ (by repeat (first | exact Below.refl _ _ | refine Below.alloc ?_ (by first | omega | (simp; done) | (simp; omega)) _ | refine Below.drew ?_)) HB.out⟩
theorem same_ref {o : Own} {r p : Nat} {S : EngS} (n1 n2 : Int) (x1 x2 : Ob) (w : World) (ho : Owned o w) (E : EngRep o w r p S) (hx1 : S.ob n1 = some x1) (hk1 : x1.kind = 1) (hx2 : S.ob n2 = some x2) (hk2 : x2.kind = 1) :
    Calls Tryz.prog 154 #[.pointer (some ⟨p, 0, none⟩), valV 3 n1, valV 3 n2] w fun e w' => e = .returned (.bool (sameS (strB x1.raw x1.byte) (strB x2.raw x2.byte))) ∧ Fr 0 0 o o w w' := by
  have HT := Lib.hid (fun (w1 : World) (F : Fr 0 0 o o w w1) => (text_same n1 n2 x1 x2 w1 F.fresh (E.keep F (.inr (Nat.zero_le _))) hx1 hk1 hx2 hk2).mono fun e w' hh => (⟨hh.1, F.trans hh.2⟩ : e = .returned (.tuple #[.bool (sameS (strB x1.raw x1.byte) (strB x2.raw x2.byte)), .int .i64 0]) ∧ Fr 0 0 o o w w'))
  have HO := Lib.hid ho
  clear E hx1 hk1 hx2 hk2
  generalize sameS (strB x1.raw x1.byte) (strB x2.raw x2.byte) = bb at *
  go_enter Tryz.func154, Tryz.ntmps154
  go_wp2_with fail
  go_at_call 189
  refine (HT.out _ (by repeat (first | exact Fr.refl HO.out | refine Fr.drew ?_ | refine Fr.alloc ?_ _))).mono ?_
  rintro e w2 ⟨rfl, F2⟩
  have HF2 := Lib.hid F2
  clear F2
  go_wp2_with fail
  go_ret
  exact ⟨rfl, HF2.out⟩
theorem dsame {o : Own} {r p : Nat} {S : EngS} (a b : Nat × Int) (w : World) (ho : Owned o w) (E : EngRep o w r p S) (ka : KeyOk S a) (kb : KeyOk S b) :
    Calls Tryz.prog 154 #[.pointer (some ⟨p, 0, none⟩), valV a.1 a.2, valV b.1 b.2] w fun e w' => e = .returned (.bool (sameK S a b)) ∧ Fr 0 0 o o w w' := by
  by_cases h : a.1 = 3 ∧ b.1 = 3
  · obtain ⟨x1, h1, h2⟩ := ka.2 h.1
    obtain ⟨x2, h3, h4⟩ := kb.2 h.2
    have := same_ref a.2 b.2 x1 x2 w ho E h1 h2 h3 h4
    unfold sameK
    rw [if_pos h, h1, h3, h.1, h.2]
    exact this
  · unfold sameK
    rw [if_neg h]
    exact (same_val a b w h).mono fun e w' hh => ⟨hh.1, Fr.of_below ho hh.2⟩
/-- 'Key' says yes. -/
theorem dkey {o : Own} {r p : Nat} {S : EngS} (a : Nat × Int) (w : World) (ho : Owned o w) (E : EngRep o w r p S) (ka : KeyOk S a) :
    Calls Tryz.prog 153 #[.pointer (some ⟨p, 0, none⟩), valV a.1 a.2] w fun e w' => e = .returned (.bool true) ∧ Fr 0 0 o o w w' := by
  obtain ⟨q, n⟩ := a
  obtain ⟨h3, hr⟩ := ka
  simp only at h3 hr ⊢
  have hq : q = 0 ∨ q = 1 ∨ q = 2 ∨ q = 3 := by omega
  have HO := Lib.hid ho
  rcases hq with rfl | rfl | rfl | rfl
  · clear E hr h3
    go_enter Tryz.func153, Tryz.ntmps153
    go_wp2
    go_ret
    exact ⟨rfl, by repeat (first | exact Fr.refl HO.out | refine Fr.drew ?_ | refine Fr.alloc ?_ _)⟩
  · clear E hr h3
    go_enter Tryz.func153, Tryz.ntmps153
    go_wp2
    go_ret
    exact ⟨rfl, by repeat (first | exact Fr.refl HO.out | refine Fr.drew ?_ | refine Fr.alloc ?_ _)⟩
  · clear E hr h3
    go_enter Tryz.func153, Tryz.ntmps153
    go_wp2
    go_ret
    exact ⟨rfl, by repeat (first | exact Fr.refl HO.out | refine Fr.drew ?_ | refine Fr.alloc ?_ _)⟩
  · obtain ⟨x, hx, hk⟩ := hr rfl
    have HK := Lib.hid (fun (w1 : World) (F : Fr 0 0 o o w w1) => show Calls Tryz.prog 33 #[.pointer (some ⟨p, 0, none⟩), .int .i64 n] w1 fun e w' => e = .returned (.int .i64 1) ∧ Fr 0 0 o o w w' from
      (rkind n w1 F.fresh (E.keep F (.inr (Nat.zero_le _)))).mono fun e w' hh => ⟨by rw [hh.1, kindA_of hx, hk]; rfl, F.below hh.2⟩)
    clear E hr h3 hx hk ho
    go_enter Tryz.func153, Tryz.ntmps153
    go_wp2_with fail
    go_at_call 33
    refine (HK.out _ (by repeat (first | exact Fr.refl HO.out | refine Fr.drew ?_ | refine Fr.alloc ?_ _))).mono ?_
    rintro e w2 ⟨rfl, F2⟩
    have HF2 := Lib.hid F2
    clear F2
    go_wp2_with fail
    go_ret
    exact ⟨rfl, HF2.out⟩
theorem dkey_no {o : Own} {r p : Nat} {S : EngS} (n : Int) (w : World) (ho : Owned o w) (E : EngRep o w r p S) (hk : kindA S n ≠ 1) :
    Calls Tryz.prog 153 #[.pointer (some ⟨p, 0, none⟩), valV 3 n] w fun e w' => e = .returned (.bool false) ∧ Fr 0 0 o o w w' := by
  have HK := Lib.hid (fun (w1 : World) (F : Fr 0 0 o o w w1) => show Calls Tryz.prog 33 #[.pointer (some ⟨p, 0, none⟩), .int .i64 n] w1 fun e w' => e = .returned (.int .i64 (kindA S n : Nat)) ∧ Fr 0 0 o o w w' from
    (rkind n w1 F.fresh (E.keep F (.inr (Nat.zero_le _)))).mono fun e w' hh => ⟨hh.1, F.below hh.2⟩)
  have hne : (((kindA S n : Nat) : Int) == 1) = false := by simp; omega
  have HO := Lib.hid ho
  clear E hk ho
  generalize kindA S n = k at *
  go_enter Tryz.func153, Tryz.ntmps153
  go_wp2_with fail
  go_at_call 33
  refine (HK.out _ (by repeat (first | exact Fr.refl HO.out | refine Fr.drew ?_ | refine Fr.alloc ?_ _))).mono ?_
  rintro e w2 ⟨rfl, F2⟩
  have HF2 := Lib.hid F2
  clear F2
  go_wp2_with fail
  go_ret
  exact ⟨rfl, HF2.out⟩
theorem Grew.fr0 {o : Own} {w w1 w2 : World} {x : Obj} (h : Grew o w x w1) (k : Fr 0 0 o o w1 w2) : Grew o w x w2 := ⟨h.fr.trans k, (k.block _ (lt_of_block h.x_) (.inr (Nat.zero_le _))).trans h.x_⟩
/-- Two values in boxes. -/
structure Box2 (o : Own) (w : World) (a b c d : Int) (w1 : World) : Prop where
  fr : Fr 0 0 o o w w1
  b0 : w1.heap[w.heap.size]? = some (vX a b)
  b1 : w1.heap[w.heap.size + 1]? = some (vX c d)
theorem Box2.base {o : Own} {w : World} (ho : Owned o w) (a b c d : Int) : Box2 o w a b c d ((w.alloc (vX a b)).alloc (vX c d)) := by
  refine ⟨((Fr.refl ho).alloc _).alloc _, (heap_alloc_old _ _ (by simp)).trans (heap_alloc_new w _), ?_⟩
  have := heap_alloc_new (w.alloc (vX a b)) (vX c d)
  simpa using this
theorem Box2.fr0 {o : Own} {w w1 w2 : World} {a b c d : Int} (h : Box2 o w a b c d w1) (k : Fr 0 0 o o w1 w2) : Box2 o w a b c d w2 :=
  ⟨h.fr.trans k, (k.block _ (lt_of_block h.b0) (.inr (Nat.zero_le _))).trans h.b0, (k.block _ (lt_of_block h.b1) (.inr (Nat.zero_le _))).trans h.b1⟩
theorem Box2.drew {o : Own} {w w1 : World} {a b c d : Int} (h : Box2 o w a b c d w1) : Box2 o w a b c d w1.drew := ⟨h.fr.drew, h.b0, h.b1⟩
theorem Box2.alloc {o : Own} {w w1 : World} {a b c d : Int} (h : Box2 o w a b c d w1) (x : Obj) : Box2 o w a b c d (w1.alloc x) := h.fr0 ((Fr.refl h.fr.fresh).alloc x)
theorem Box2.cells {o : Own} {w w1 : World} {a b c d : Int} (h : Box2 o w a b c d w1) : w1.cell? ⟨w.heap.size, 0, none⟩ = some (.int .i64 a) ∧ w1.cell? ⟨w.heap.size, 1, none⟩ = some (.int .i64 b) ∧ w1.cell? ⟨w.heap.size + 1, 0, none⟩ = some (.int .i64 c) ∧ w1.cell? ⟨w.heap.size + 1, 1, none⟩ = some (.int .i64 d) := by
  have h0 := h.b0
  have h1 := h.b1
  unfold vX at h0 h1
  simp [World.cell?, h0, h1]
/-- What 'may' answers where the object is a dict and the value is right. -/
def mayA (b : Bool) : Value := .int .i64 (bif b then 0 else 13)
theorem dmay {o : Own} {r p : Nat} {S : EngS} (h : Int) (a v : Nat × Int) (b : Bool) (w : World) (ho : Owned o w) (E : EngRep o w r p S) (hk : kindA S h = 3) (hv3 : v.1 ≤ 3) (hv : v.1 = 3 → ∃ y, S.ob v.2 = some y)
    (hb : ∀ w1, Fr 0 0 o o w w1 → Calls Tryz.prog 153 #[.pointer (some ⟨p, 0, none⟩), valV a.1 a.2] w1 fun e w' => e = .returned (.bool b) ∧ Fr 0 0 o o w1 w') :
    Calls Tryz.prog 98 #[.pointer (some ⟨p, 0, none⟩), .int .i64 h, valV a.1 a.2, valV v.1 v.2] w fun e w' => e = .returned (mayA b) ∧ Fr 0 0 o o w w' := by
  obtain ⟨q1, n1⟩ := a
  obtain ⟨q2, n2⟩ := v
  simp only at hv3 hv hb ⊢
  have HK := Lib.hid (fun (w1 : World) (F : Fr 0 0 o o w w1) => show Calls Tryz.prog 33 #[.pointer (some ⟨p, 0, none⟩), .int .i64 h] w1 fun e w' => e = .returned (.int .i64 3) ∧ Fr 0 0 o o w1 w' from
    (rkind h w1 F.fresh (E.keep F (.inr (Nat.zero_le _)))).mono fun e w' hh => ⟨by rw [hh.1, hk]; rfl, Fr.of_below F.fresh hh.2⟩)
  have HV := Lib.hid (fun (w1 : World) (F : Fr 0 0 o o w w1) => show Calls Tryz.prog 90 #[.pointer (some ⟨p, 0, none⟩), valV q2 n2] w1 fun e w' => e = .returned (.bool true) ∧ Fr 0 0 o o w1 w' from
    (rright q2 n2 w1 F.fresh (E.keep F (.inr (Nat.zero_le _))) hv3 hv).mono fun e w' hh => ⟨hh.1, Fr.of_below F.fresh hh.2⟩)
  have HB := Lib.hid hb
  have HO := Lib.hid ho
  clear E hk hv3 hv hb ho
  cases b with
  | true =>
    go_enter Tryz.func98, Tryz.ntmps98
    go_wp2_with fail
    go_at_call 33
    refine (HK.out _ (by repeat (first | exact Fr.refl HO.out | refine Fr.drew ?_ | refine Fr.alloc ?_ _))).mono ?_
    rintro e w2 ⟨rfl, F2⟩
    have HX := Lib.hid ((Box2.base HO.out (q1 : Int) n1 (q2 : Int) n2).fr0 F2)
    obtain ⟨x0, x1, x2, x3⟩ := HX.out.cells
    clear F2
    go_wp2_with fail
    go_at_call 90
    refine (HV.out _ HX.out.fr).mono ?_
    rintro e w3 ⟨rfl, F3⟩
    have HY := Lib.hid (HX.out.fr0 F3)
    obtain ⟨y0, y1, y2, y3⟩ := HY.out.cells
    clear F3 x0 x1 x2 x3
    go_wp2_with fail
    go_at_call 153
    refine (HB.out _ HY.out.fr).mono ?_
    rintro e w4 ⟨rfl, F4⟩
    have HF4 := Lib.hid (HY.out.fr.trans F4)
    clear F4
    go_wp2_with fail
    go_ret
    exact ⟨rfl, HF4.out⟩
  | false =>
    go_enter Tryz.func98, Tryz.ntmps98
    go_wp2_with fail
    go_at_call 33
    refine (HK.out _ (by repeat (first | exact Fr.refl HO.out | refine Fr.drew ?_ | refine Fr.alloc ?_ _))).mono ?_
    rintro e w2 ⟨rfl, F2⟩
    have HX := Lib.hid ((Box2.base HO.out (q1 : Int) n1 (q2 : Int) n2).fr0 F2)
    obtain ⟨x0, x1, x2, x3⟩ := HX.out.cells
    clear F2
    go_wp2_with fail
    go_at_call 90
    refine (HV.out _ HX.out.fr).mono ?_
    rintro e w3 ⟨rfl, F3⟩
    have HY := Lib.hid (HX.out.fr0 F3)
    obtain ⟨y0, y1, y2, y3⟩ := HY.out.cells
    clear F3 x0 x1 x2 x3
    go_wp2_with fail
    go_at_call 153
    refine (HB.out _ HY.out.fr).mono ?_
    rintro e w4 ⟨rfl, F4⟩
    have HF4 := Lib.hid (HY.out.fr.trans F4)
    clear F4
    go_wp2_with fail
    go_ret
    exact ⟨rfl, HF4.out⟩
end Go.Proofs.YtlpklloagaccoaaGreat
namespace Go.Proofs.YtlpklloagaccoaaGreat
open Go.RowKit
set_option linter.unusedVariables false

/-- Object 'h' is a dict of 'n' keys; its store 's' has 'c' cells. -/
structure DictAt (S : EngS) (h : Int) (x : Ob) (s : Int) (c n : Nat) : Prop where
  st : StoreAt S h x s c
  kind : x.kind = 3
  len : x.val 0 = (1, (n : Int))
  nc : 2 * n ≤ c
  c4 : c ≤ 4000
section
variable {o : Own} {r p : Nat} {S : EngS} {h : Int} {x : Ob} {s : Int} {c n : Nat}
set_option maxRecDepth 100000 in
theorem dlen (w : World) (ho : Owned o w) (E : EngRep o w r p S) (A : DictAt S h x s c n) :
    Calls Tryz.prog 46 #[.pointer (some ⟨p, 0, none⟩), .int .i64 h] w fun e w' => e = .returned (.tuple #[.int .i64 (n : Nat), .int .i64 0]) ∧ Below w.heap.size w w' := by
  have H := Lib.hid (show Calls Tryz.prog 93 #[.pointer (some ⟨p, 0, none⟩), .int .i64 3, .int .i64 h] w fun e w' => e = .returned (.tuple #[.int .i64 (n : Nat), .int .i64 0]) ∧ Below w.heap.size w w' from by
    have := lsize h x 3 w ho E A.st.ob (by rw [A.st.two]; omega) (by rw [A.kind]; rfl)
    rw [A.len] at this
    exact this)
  clear E A ho
  go_enter Tryz.func46, Tryz.ntmps46
  go_wp2_with fail
  go_at_call 93
  refine H.out.mono ?_
  rintro e w1 ⟨rfl, hb⟩
  have HB := Lib.hid hb
  clear hb
  go_wp2_with fail
  go_ret2
  exact ⟨rfl, HB.out⟩
/-- What is found: the place of a key, or as many as there are. -/
def FindPost (o : Own) (w : World) (S : EngS) (ks : Nat → Nat × Int) (k : Nat × Int) (n : Nat) (s : Int) (e : Ending) (w' : World) : Prop :=
  ∃ i, i ≤ n ∧ (∀ j, j < i → sameK S (ks j) k = false) ∧ (i < n → sameK S (ks i) k = true) ∧ e = .returned (.tuple #[.int .i64 s, .int .i64 (n : Nat), .int .i64 (i : Nat)]) ∧ Fr 0 0 o o w w'
set_option maxRecDepth 100000 in
set_option maxHeartbeats 1000000 in
theorem dfind {ks : Nat → Nat × Int} {y : Ob} (k : Nat × Int) (w : World) (ho : Owned o w) (E : EngRep o w r p S) (A : DictAt S h x s c n) (kk : KeyOk S k) (hks : ∀ i, i < n → KeyOk S (ks i)) (hy : 0 < c → S.ob s = some y ∧ y.cells = c) (hv : ∀ i, i < n → y.val (2 * i) = ks i) :
    Calls Tryz.prog 99 #[.pointer (some ⟨p, 0, none⟩), .int .i64 h, valV k.1 k.2] w (FindPost o w S ks k n s) := by
  have HL := Lib.hid (fun (w1 : World) (F : Fr 0 0 o o w w1) => (dlen w1 F.fresh (E.keep F (.inr (Nat.zero_le _))) A).mono fun e w' (hh : _ ∧ Below w1.heap.size w1 w') => (⟨hh.1, Fr.of_below F.fresh hh.2⟩ : e = .returned (.tuple #[.int .i64 (n : Nat), .int .i64 0]) ∧ Fr 0 0 o o w1 w'))
  have HSt := Lib.hid (fun (w1 : World) (F : Fr 0 0 o o w w1) => (lstore w1 F.fresh (E.keep F (.inr (Nat.zero_le _))) A.st).mono fun e w' (hh : _ ∧ Below w1.heap.size w1 w') => (⟨hh.1, Fr.of_below F.fresh hh.2⟩ : e = .returned (.tuple #[.int .i64 s, .int .i64 (c : Nat)]) ∧ Fr 0 0 o o w1 w'))
  have HC := Lib.hid (fun (i : Nat) (hi : i < n) (w1 : World) (F : Fr 0 0 o o w w1) => show Calls Tryz.prog 30 #[.pointer (some ⟨p, 0, none⟩), .int .i64 s, .int .i64 (2 * (i : Nat) : Int)] w1 fun e w' => e = .returned (.tuple #[valV (ks i).1 (ks i).2, .int .i64 0]) ∧ Fr 0 0 o o w1 w' from by
    obtain ⟨h1, h2⟩ := hy (by have := A.nc; omega)
    refine (rcell s (2 * (i : Nat) : Int) w1 F.fresh (E.keep F (.inr (Nat.zero_le _)))).mono fun e w' hh => ⟨?_, Fr.of_below F.fresh hh.2⟩
    rw [hh.1, cellA_in h1 (show (2 * (i : Nat) : Int) = ((2 * i : Nat) : Int) by omega) (by have := A.nc; omega), hv i hi])
  have HS := Lib.hid (fun (i : Nat) (hi : i < n) (w1 : World) (F : Fr 0 0 o o w w1) => (dsame (ks i) k w1 F.fresh (E.keep F (.inr (Nat.zero_le _))) (hks i hi) kk))
  have HO := Lib.hid ho
  have hn4 : (n : Int) ≤ 2000 := by have := A.nc; have := A.c4; omega
  clear E A kk hks hy hv ho
  obtain ⟨q1, n1⟩ := k
  simp only at HS ⊢
  go_enter Tryz.func99, Tryz.ntmps99
  go_wp2_with fail
  go_at_call 46
  refine (HL.out _ (by repeat (first | exact Fr.refl HO.out | refine Fr.drew ?_ | refine Fr.alloc ?_ _))).mono ?_
  rintro e w2 ⟨rfl, F2⟩
  have HG2 := Lib.hid ((Grew.base HO.out (vX (q1 : Int) n1)).fr0 F2)
  clear F2
  go_wp2_with fail
  go_at_call 151
  refine (HSt.out _ HG2.out.fr).mono ?_
  rintro e w3 ⟨rfl, F3⟩
  have HG3 := Lib.hid (HG2.out.fr0 F3)
  clear F3
  go_wp2_with fail
  go_loopw [29] (fun iv wr => ∃ i : Nat, i ≤ n ∧ iv = .int .i64 i ∧ Grew o w (vX (q1 : Int) n1) wr ∧ ∀ j, j < i → sameK S (ks j) (q1, n1) = false) (fun iv _ => n - (intOf iv).toNat)
  case atStart => exact ⟨0, by omega, rfl, HG3.out, fun j hj => absurd hj (by omega)⟩
  case round =>
    obtain ⟨i, hi, rfl, Gi, hno⟩ := hrel
    have HNO := Lib.hid hno
    clear hno
    by_cases hin : i < n
    · have hin' : (i : Int) < (n : Int) := by omega
      have HGi := Lib.hid Gi
      clear Gi hi
      have HCi := Lib.hid (HC.out i hin wr HGi.out.fr)
      have HSi := Lib.hid (HS.out i hin)
      generalize hki : ks i = ki at HCi HSi
      obtain ⟨q2, n2⟩ := ki
      simp only at HCi HSi
      have HKI := Lib.hid hki
      clear hki
      cases hb : sameK S (q2, n2) (q1, n1) with
      | true =>
        rw [hb] at HSi
        have HBB := Lib.hid hb
        clear hb
        go_wp2_with fail
        go_at_call 30
        refine HCi.out.mono ?_
        rintro e w5 ⟨rfl, F5⟩
        have HG5 := Lib.hid (HGi.out.fr0 F5)
        have hsz : w.heap.size < w5.heap.size := lt_of_block HG5.out.x_
        clear F5
        have X := HG5.out.x_
        unfold vX at X
        have x0 : w5.cell? ⟨w.heap.size, 0, none⟩ = some (.int .i64 (q1 : Nat)) := by simp [World.cell?, X]
        have x1 : w5.cell? ⟨w.heap.size, 1, none⟩ = some (.int .i64 n1) := by simp [World.cell?, X]
        clear X
        go_wp2_with fail
        go_at_call 154
        refine (HSi.out _ (by repeat (first | exact HG5.out.fr | refine Fr.drew ?_ | refine Fr.alloc ?_ _))).mono ?_
        rintro e w6 ⟨rfl, F6⟩
        have HF6 := Lib.hid ((HG5.out.fr.alloc (vX (q2 : Int) n2)).trans F6)
        clear F6 x0 x1
        go_wp2_with fail
        go_ret3
        exact ⟨i, by omega, HNO.out, fun _ => by rw [HKI.out]; exact HBB.out, rfl, HF6.out⟩
      | false =>
        rw [hb] at HSi
        have HBB := Lib.hid hb
        clear hb
        go_wp2_with fail
        go_at_call 30
        refine HCi.out.mono ?_
        rintro e w5 ⟨rfl, F5⟩
        have HG5 := Lib.hid (HGi.out.fr0 F5)
        have hsz : w.heap.size < w5.heap.size := lt_of_block HG5.out.x_
        clear F5
        have X := HG5.out.x_
        unfold vX at X
        have x0 : w5.cell? ⟨w.heap.size, 0, none⟩ = some (.int .i64 (q1 : Nat)) := by simp [World.cell?, X]
        have x1 : w5.cell? ⟨w.heap.size, 1, none⟩ = some (.int .i64 n1) := by simp [World.cell?, X]
        clear X
        go_wp2_with fail
        go_at_call 154
        refine (HSi.out _ (by repeat (first | exact HG5.out.fr | refine Fr.drew ?_ | refine Fr.alloc ?_ _))).mono ?_
        rintro e w6 ⟨rfl, F6⟩
        have HG6 := Lib.hid ((HG5.out.alloc (vX (q2 : Int) n2)).fr0 F6)
        clear F6 x0 x1
        go_wp2_with fail
        refine ⟨⟨i + 1, by omega, by go_num, HG6.out, fun j hj => ?_⟩, by simp [intOf]; omega⟩
        by_cases e : j = i
        · rw [e, HKI.out]; exact HBB.out
        · exact HNO.out j (by omega)
    · have hin' : ¬ (i : Int) < (n : Int) := by omega
      obtain rfl : i = n := by omega
      have HGi := Lib.hid Gi
      clear Gi hi
      go_wp2_with fail
      go_ret3
      exact ⟨i, by omega, HNO.out, fun h => absurd h hin, rfl, HGi.out.fr⟩
end
end Go.Proofs.YtlpklloagaccoaaGreat
namespace Go.Proofs.YtlpklloagaccoaaGreat
open Go.RowKit
set_option linter.unusedVariables false

/-- A dict 'h' has keys ks 0, .., ks (n-1) with values vs; its store 's' has 'c' cells. -/
structure DS (S : EngS) (h : Int) (ks vs : Nat → Nat × Int) (n c : Nat) (s : Int) : Prop where
  ex : ∃ x, DictAt S h x s c n
  st : 0 < c → ∃ y, S.ob s = some y ∧ y.cells = c ∧ y.kind = 4 ∧ (∀ i, i < n → y.val (2 * i) = ks i ∧ y.val (2 * i + 1) = vs i) ∧ ∀ j, 2 * n ≤ j → j < c → (y.val j).1 = 0
  hs : h ≠ s
  ok : S.L.ok = true
  keys : ∀ i, i < n → KeyOk S (ks i) ∧ ValOk S (ks i).1 (ks i).2
  vals : ∀ i, i < n → ValOk S (vs i).1 (vs i).2
/-- What is found. -/
structure Found (S : EngS) (ks : Nat → Nat × Int) (k : Nat × Int) (n i : Nat) : Prop where
  le : i ≤ n
  no : ∀ j, j < i → sameK S (ks j) k = false
  yes : i < n → sameK S (ks i) k = true
section
variable {o : Own} {r p : Nat} {S : EngS} {h : Int} {ks vs : Nat → Nat × Int} {n c : Nat} {s : Int}
theorem ds_find (k : Nat × Int) (w : World) (ho : Owned o w) (E : EngRep o w r p S) (A : DS S h ks vs n c s) (kk : KeyOk S k) :
    Calls Tryz.prog 99 #[.pointer (some ⟨p, 0, none⟩), .int .i64 h, valV k.1 k.2] w fun e w' => ∃ i, Found S ks k n i ∧ e = .returned (.tuple #[.int .i64 s, .int .i64 (n : Nat), .int .i64 (i : Nat)]) ∧ Fr 0 0 o o w w' := by
  obtain ⟨x, B⟩ := A.ex
  have hy : ∃ y : Ob, (0 < c → S.ob s = some y ∧ y.cells = c) ∧ ∀ i, i < n → y.val (2 * i) = ks i := by
    rcases Nat.eq_zero_or_pos c with h0 | h0
    · exact ⟨newOb 0 0 0, fun h => by omega, fun i hi => by have := B.nc; omega⟩
    · obtain ⟨y, h1, h2, _, h3, _⟩ := A.st h0
      exact ⟨y, fun _ => ⟨h1, h2⟩, fun i hi => (h3 i hi).1⟩
  obtain ⟨y, h1, h2⟩ := hy
  exact (dfind k w ho E B kk (fun i hi => (A.keys i hi).1) h1 h2).mono fun e w' ⟨i, g1, g2, g3, g4, g5⟩ => ⟨i, ⟨g1, g2, g3⟩, g4, g5⟩
/-- What Get answers. -/
def getA (vs : Nat → Nat × Int) (n i : Nat) : Value := if i < n then .tuple #[valV (vs i).1 (vs i).2, .int .i64 0] else .tuple #[valV 0 0, .int .i64 13]
theorem DS.kind (A : DS S h ks vs n c s) : kindA S h = 3 := by
  obtain ⟨x, B⟩ := A.ex
  rw [kindA_of B.st.ob, B.kind]
theorem ds_may (k v : Nat × Int) (w : World) (ho : Owned o w) (E : EngRep o w r p S) (A : DS S h ks vs n c s) (kk : KeyOk S k) (V : ValOk S v.1 v.2) :
    Calls Tryz.prog 98 #[.pointer (some ⟨p, 0, none⟩), .int .i64 h, valV k.1 k.2, valV v.1 v.2] w fun e w' => e = .returned (.int .i64 0) ∧ Fr 0 0 o o w w' :=
  (dmay h k v true w ho E A.kind V.q3 V.ref (fun w1 F => (dkey k w1 F.fresh (E.keep F (.inr (Nat.zero_le _))) kk))).mono fun e w' hh => hh
set_option maxRecDepth 100000 in
set_option maxHeartbeats 1000000 in
theorem ds_get (k : Nat × Int) (w : World) (ho : Owned o w) (E : EngRep o w r p S) (A : DS S h ks vs n c s) (kk : KeyOk S k) :
    Calls Tryz.prog 42 #[.pointer (some ⟨p, 0, none⟩), .int .i64 h, valV k.1 k.2] w fun e w' => ∃ i, Found S ks k n i ∧ e = .returned (getA vs n i) ∧ Below w.heap.size w w' := by
  have HM := Lib.hid (fun (w1 : World) (F : Fr 0 0 o o w w1) => (ds_may k (0, 0) w1 F.fresh (E.keep F (.inr (Nat.zero_le _))) A kk ⟨by show 0 ≤ 3; omega, by unfold in64; show -9223372036854775808 ≤ (0 : Int) ∧ (0 : Int) < _; omega, fun e => by cases e⟩))
  have HFi := Lib.hid (fun (w1 : World) (F : Fr 0 0 o o w w1) => ds_find k w1 F.fresh (E.keep F (.inr (Nat.zero_le _))) A kk)
  have HC := Lib.hid (fun (i : Nat) (hi : i < n) (w1 : World) (F : Fr 0 0 o o w w1) => show Calls Tryz.prog 30 #[.pointer (some ⟨p, 0, none⟩), .int .i64 s, .int .i64 (2 * (i : Nat) + 1 : Int)] w1 fun e w' => e = .returned (.tuple #[valV (vs i).1 (vs i).2, .int .i64 0]) ∧ Fr 0 0 o o w1 w' from by
    obtain ⟨x, B⟩ := A.ex
    obtain ⟨y, h1, h2, _, h3, _⟩ := A.st (by have := B.nc; omega)
    refine (rcell s (2 * (i : Nat) + 1 : Int) w1 F.fresh (E.keep F (.inr (Nat.zero_le _)))).mono fun e w' hh => ⟨?_, Fr.of_below F.fresh hh.2⟩
    rw [hh.1, cellA_in h1 (show (2 * (i : Nat) + 1 : Int) = ((2 * i + 1 : Nat) : Int) by omega) (by have := B.nc; omega), (h3 i hi).2])
  have hn4 : (n : Int) ≤ 2000 := by obtain ⟨x, B⟩ := A.ex; have := B.nc; have := B.c4; omega
  have HO := Lib.hid ho
  clear E A kk ho
  obtain ⟨q1, n1⟩ := k
  go_enter Tryz.func42, Tryz.ntmps42
  go_wp2_with fail
  go_at_call 98
  refine (HM.out _ (by repeat (first | exact Fr.refl HO.out | refine Fr.drew ?_ | refine Fr.alloc ?_ _))).mono ?_
  rintro e w2 ⟨rfl, F2⟩
  have HX := Lib.hid ((Box2.base HO.out (q1 : Int) n1 0 0).fr0 F2)
  obtain ⟨x0, x1, x2, x3⟩ := HX.out.cells
  clear F2
  go_wp2_with fail
  go_at_call 99
  refine (HFi.out _ HX.out.fr).mono ?_
  rintro e w3 ⟨i, hf, rfl, F3⟩
  have HFd := Lib.hid hf
  have HY := Lib.hid (HX.out.fr0 F3)
  have hile := hf.le
  clear F3 x0 x1 x2 x3 hf
  by_cases hin : i < n
  · have hne : ((i : Int) == (n : Int)) = false := by simp; omega
    have HIN := Lib.hid hin
    have i2 : (i : Int) ≤ 2000 := by omega
    have HCi := Lib.hid (HC.out i hin)
    clear hin hile
    go_wp2_with fail
    go_at_call 30
    refine (HCi.out _ HY.out.fr).mono ?_
    rintro e w4 ⟨rfl, F4⟩
    have HZ := Lib.hid (HY.out.fr0 F4)
    have R1 := HZ.out.b1
    unfold vX at R1
    have z0 : w4.frozen? ⟨w.heap.size + 1, 0, none⟩ = false := by simp [World.frozen?, R1]
    have z1 : w4.frozen? ⟨w.heap.size + 1, 1, none⟩ = false := by simp [World.frozen?, R1]
    have y0 : w4.cell? ⟨w.heap.size + 1, 0, none⟩ = some (.int .i64 0) := by simp [World.cell?, R1]
    have y1 : w4.cell? ⟨w.heap.size + 1, 1, none⟩ = some (.int .i64 0) := by simp [World.cell?, R1]
    have HB2 := Lib.hid HZ.out.fr.below0
    clear R1 F4
    go_wp2_with fail
    refine bodyPost_ret (v := .tuple #[valV (vs i).1 (vs i).2, .int .i64 0]) ?_ rfl ⟨i, HFd.out, by unfold getA; rw [if_pos HIN.out], ?_⟩
    · simp [results, Tryz.results42, go_sem, y0, y1, valV]
    · exact ((HB2.out).setCell (by show _ ≤ w.heap.size + 1; omega) _).setCell (by show _ ≤ w.heap.size + 1; omega) _
  · have hne : ((i : Int) == (n : Int)) = true := by simp; omega
    have HIN := Lib.hid hin
    have R1 := HY.out.b1
    unfold vX at R1
    have z0 : w3.frozen? ⟨w.heap.size + 1, 0, none⟩ = false := by simp [World.frozen?, R1]
    have z1 : w3.frozen? ⟨w.heap.size + 1, 1, none⟩ = false := by simp [World.frozen?, R1]
    have y0 : w3.cell? ⟨w.heap.size + 1, 0, none⟩ = some (.int .i64 0) := by simp [World.cell?, R1]
    have y1 : w3.cell? ⟨w.heap.size + 1, 1, none⟩ = some (.int .i64 0) := by simp [World.cell?, R1]
    have HB2 := Lib.hid HY.out.fr.below0
    clear R1 hin hile
    go_wp2_with fail
    refine bodyPost_ret (v := .tuple #[valV 0 0, .int .i64 13]) ?_ rfl ⟨i, HFd.out, by unfold getA; rw [if_neg HIN.out], ?_⟩
    · simp [results, Tryz.results42, go_sem, y0, y1, valV]
    · exact ((HB2.out).setCell (by show _ ≤ w.heap.size + 1; omega) _).setCell (by show _ ≤ w.heap.size + 1; omega) _
end
end Go.Proofs.YtlpklloagaccoaaGreat
