/- Texts among objects (count.SetRaw, Raw; text.New, Bytes). Conditions: the engine is as one that was made. Texts that are compared (text.both, Same; bytes.Equal). Conditions: the engine is as one that was made. -/
import Derived.Test.YtlpklloagaccoaaGreatRoom
import Derived.Outline
namespace Go.Proofs.YtlpklloagaccoaaGreat
open Go.RowKit
set_option linter.unusedVariables false

/-- Behind SetRaw. -/
def rawA (S : EngS) (h : Int) (x : Ob) (f : Nat → Nat) : EngS := { S with ob := updI S.ob h (some (withBytes x f x.raw)) }
theorem AbsK.raw {K : EngK} {S : EngS} (A : AbsK K S) {h : Int} {y : Ob} (hy : K.ob h = some y) (f : Nat → Nat) : AbsK { K with ob := updI K.ob h (some (withBytes y f y.raw)) } (rawA S h (setCnt y 0) f) := by
  refine ⟨A.L, fun j => ?_, A.lim, fun j => ?_, A.st, A.Z, A.Pu, A.wat, A.weak, A.pend⟩
  · show updI S.ob h _ j = (updI K.ob h _ j).map _
    unfold updI
    by_cases e : j = h
    · rw [if_pos e, if_pos e]; rfl
    · rw [if_neg e, if_neg e]; exact A.ob j
  · show S.tot j = cntO (updI K.ob h _ j) + K.ex j
    unfold updI
    by_cases e : j = h
    · rw [if_pos e, A.tot j, e, hy]; rfl
    · rw [if_neg e]; exact A.tot j
theorem rsetraw {o : Own} {r p : Nat} {S : EngS} (h : Int) (x : Ob) (v : Value) (f : Nat → Nat) (w : World) (hr : 1 ≤ r) (hr2 : r + 29 ≤ 99) (ho : Owned o w) (E : EngRep o w r p S) (hx : S.ob h = some x) (B : BSl o w v x.raw f) :
    Calls Tryz.prog 95 #[.pointer (some ⟨p, 0, none⟩), .int .i64 h, .int .i64 0, v] w (EngDo o w r p (rawA S h x f) (.int .i64 0)) := by
  obtain ⟨ps, pt, pz, pp, bw, bk, vv, K, E, A⟩ := E
  obtain ⟨y, hy, e1, _⟩ := A.of_some hx
  subst e1
  have HS := Lib.hid (show Calls Tryz.prog 62 #[.pointer (some ⟨ps, 0, none⟩), .int .i64 h, .int .i64 0, v] w (EngDo o w r p (rawA S h (setCnt y 0) f) (.int .i64 0)) from
    (osetraw_all h y v f w (by omega) (by omega) ho E.sp hy B).mono fun e w' hh => by
      obtain ⟨h1, o', F, S'⟩ := hh
      exact ⟨h1, o', F.mono (by omega) (by omega), _, _, _, _, _, _, _, _, E.space F S', A.raw hy f⟩)
  have c0 := E.c0
  clear E A hy hx B
  go_enter Tryz.func95, Tryz.ntmps95
  go_wp2_with fail
  go_at_call 62
  refine HS.out.mono ?_
  rintro e w1 ⟨rfl, hE⟩
  have HE := Lib.hid hE
  clear hE
  go_wp2_with fail
  go_ret
  exact ⟨rfl, HE.out⟩
/-- A call that gives an object's bytes in a new row. -/
def RawPostE (o : Own) (w : World) (n : Nat) (f : Nat → Nat) (e : Ending) (w' : World) : Prop :=
  ∃ g, e = .returned (.slice (some ⟨g, 0, none⟩) n n) ∧ Fr 0 0 o o w w' ∧ w.heap.size ≤ g ∧ BytesB w' g n f
def BytesPost (o : Own) (w : World) (n : Nat) (f : Nat → Nat) (e : Ending) (w' : World) : Prop :=
  ∃ g, e = .returned (.tuple #[.slice (some ⟨g, 0, none⟩) n n, .int .i64 0]) ∧ Fr 0 0 o o w w' ∧ w.heap.size ≤ g ∧ BytesB w' g n f
theorem rraw {o : Own} {r p : Nat} {S : EngS} (h : Int) (x : Ob) (w : World) (ho : Owned o w) (E : EngRep o w r p S) (hx : S.ob h = some x) :
    Calls Tryz.prog 123 #[.pointer (some ⟨p, 0, none⟩), .int .i64 h] w (RawPostE o w x.raw x.byte) := by
  obtain ⟨ps, pt, pz, pp, bw, bk, vv, K, E, A⟩ := E
  obtain ⟨y, hy, e1, _⟩ := A.of_some hx
  subst e1
  have HS := Lib.hid (oraw_yes h y w ho E.sp hy)
  have c0 := E.c0
  clear E A hy hx
  go_enter Tryz.func123, Tryz.ntmps123
  go_wp2_with fail
  go_at_call 60
  refine HS.out.mono ?_
  rintro e w1 ⟨g, rfl, F, hg, B⟩
  have HF := Lib.hid F
  have HB := Lib.hid B
  have HG := Lib.hid hg
  clear F B hg
  go_wp2_with fail
  go_ret
  exact ⟨g, rfl, HF.out, HG.out, HB.out⟩
def textOb (n : Nat) (f : Nat → Nat) : Ob := withBytes (newOb 1 0 n) f n
/-- Behind text.New. -/
def textA (S : EngS) (L' : Al) (a n : Nat) (f : Nat → Nat) : EngS := rawA (makeA S L' a 1 0 n) (a : Int) (newOb 1 0 n) f
theorem textA_ob (S : EngS) (L' : Al) (a n : Nat) (f : Nat → Nat) : (textA S L' a n f).ob = updI S.ob (a : Int) (some (textOb n f)) := by
  show updI (updI S.ob _ _) _ _ = _
  rw [updI_twice]; rfl
set_option maxRecDepth 100000 in
theorem text_new {o : Own} {r p : Nat} {S : EngS} (A : Option Addr) (n cap : Nat) (f : Nat → Nat) (L' : Al) (a : Nat) (w : World) (hr : 1 ≤ r) (hr2 : r + 29 ≤ 99) (ho : Owned o w) (E : EngRep o w r p S) (hok : S.L.ok = true) (hn : n ≤ 4000) (hT : tookL S.L (wordsN 0 n) = some (L', a)) (B : BSl o w (.slice A n cap) n f) :
    Calls Tryz.prog 37 #[.pointer (some ⟨p, 0, none⟩), .slice A n cap] w fun e w' => EngDo o w r p (textA S L' a n f) (.tuple #[.int .i64 (a : Nat), .int .i64 0]) e w' ∧ S.ob (a : Int) = none ∧ 64 ≤ a ∧ a < 262144 ∧ L'.ok = true ∧ L'.n = S.L.n := by
  have HM := Lib.hid (rmake 1 0 n 1 0 n rfl rfl rfl L' a w ho E hok (by omega) (by omega) (by omega) hT)
  have HR := Lib.hid (fun (o1 : Own) (w1 : World) (F : Fr r (r + 29) o o1 w w1) (E1 : EngRep o1 w1 r p (makeA S L' a 1 0 n)) => show Calls Tryz.prog 95 #[.pointer (some ⟨p, 0, none⟩), .int .i64 (a : Nat), .int .i64 0, .slice A n cap] w1 (EngDo o1 w1 r p (textA S L' a n f) (.int .i64 0)) from
    rsetraw (a : Int) (newOb 1 0 n) (.slice A n cap) f w1 hr hr2 F.fresh E1 (if_pos rfl) (B.keep F (.inl ⟨by omega, hr2⟩)))
  have h4 : ¬ 4000 < (n : Int) := by omega
  clear E hT hok ho B
  go_enter Tryz.func37, Tryz.ntmps37
  go_wp2_with fail
  go_at_call 66
  refine HM.out.mono ?_
  rintro e w1 ⟨⟨rfl, o1, F1, E1⟩, hf⟩
  have HF1 := Lib.hid F1
  have HE1 := Lib.hid E1
  have HFF := Lib.hid hf
  clear F1 E1 hf
  go_wp2_with fail
  go_at_call 95
  refine (HR.out o1 _ HF1.out HE1.out).mono ?_
  rintro e w2 ⟨rfl, o2, F2, E2⟩
  have HF2 := Lib.hid (HF1.out.trans F2)
  have HE2 := Lib.hid E2
  clear F2 E2
  go_wp2_with fail
  go_ret2
  exact ⟨⟨rfl, o2, HF2.out, HE2.out⟩, HFF.out⟩
theorem text_long {p : Nat} (A : Option Addr) (n cap : Nat) (w : World) (hn : 4000 < n) (hm : n ≤ maxLen) :
    Calls Tryz.prog 37 #[.pointer (some ⟨p, 0, none⟩), .slice A n cap] w fun e w' => e = .returned (.tuple #[.int .i64 0, .int .i64 9]) ∧ w = w' := by
  unfold maxLen at hm
  have h4 : 4000 < (n : Int) := by omega
  go_enter Tryz.func37, Tryz.ntmps37
  go_wp2_with fail
  go_ret2
  exact ⟨rfl, rfl⟩
set_option maxRecDepth 100000 in
theorem text_bytes {o : Own} {r p : Nat} {S : EngS} (h : Int) (x : Ob) (w : World) (ho : Owned o w) (E : EngRep o w r p S) (hx : S.ob h = some x) (hk : x.kind = 1) :
    Calls Tryz.prog 73 #[.pointer (some ⟨p, 0, none⟩), .int .i64 h] w (BytesPost o w x.raw x.byte) := by
  have HK := Lib.hid (show Calls Tryz.prog 33 #[.pointer (some ⟨p, 0, none⟩), .int .i64 h] w fun e w' => e = .returned (.int .i64 1) ∧ Below w.heap.size w w' from
    (rkind h w ho E).mono fun e w' hh => ⟨by rw [hh.1, kindA_of hx, hk]; rfl, hh.2⟩)
  have HO := Lib.hid ho
  have HR := Lib.hid (fun (w1 : World) (F : Fr 0 0 o o w w1) => rraw h x w1 F.fresh (E.keep F (.inr (Nat.zero_le _))) hx)
  clear E hx hk
  generalize x.raw = n at *
  generalize x.byte = f at *
  go_enter Tryz.func73, Tryz.ntmps73
  go_wp2_with fail
  go_at_call 33
  refine HK.out.mono ?_
  rintro e w1 ⟨rfl, hb⟩
  have HF1 := Lib.hid ((Fr.refl (lo := 0) (hi := 0) HO.out).below hb)
  clear hb
  go_wp2_with fail
  go_at_call 123
  refine (HR.out _ HF1.out).mono ?_
  rintro e w2 ⟨g, rfl, F2, hg, B2⟩
  have HF2 := Lib.hid (HF1.out.trans F2)
  have HB2 := Lib.hid B2
  have HG := Lib.hid (Nat.le_trans HF1.out.size hg)
  clear F2 B2 hg
  go_wp2_with fail
  go_ret2
  exact ⟨g, rfl, HF2.out, HG.out, HB2.out⟩
theorem text_no {o : Own} {r p : Nat} {S : EngS} (h : Int) (w : World) (ho : Owned o w) (E : EngRep o w r p S) (hk : kindA S h ≠ 1) :
    Calls Tryz.prog 73 #[.pointer (some ⟨p, 0, none⟩), .int .i64 h] w fun e w' => e = .returned (.tuple #[.slice none 0 0, .int .i64 5]) ∧ Below w.heap.size w w' := by
  have HK := Lib.hid (rkind h w ho E)
  have h1 : ((kindA S h : Nat) : Int) ≠ 1 := by omega
  clear E hk
  generalize kindA S h = k at *
  go_enter Tryz.func73, Tryz.ntmps73
  go_wp2_with fail
  go_at_call 33
  refine HK.out.mono ?_
  rintro e w1 ⟨rfl, hb⟩
  have HB := Lib.hid hb
  clear hb
  go_wp2_with fail
  go_ret2
  exact ⟨rfl, HB.out⟩
end Go.Proofs.YtlpklloagaccoaaGreat
namespace Go.Proofs.YtlpklloagaccoaaGreat
open Go.RowKit
set_option linter.unusedVariables false

/-- Strings that are the same. -/
def sameS (a b : ByteArray) : Bool := a.toList == b.toList
theorem bytes_equal (v1 v2 : Value) (s1 s2 : ByteArray) (w : World) (h1 : (convert 42 9 v1).run Tryz.prog w = .ok (.string s1) w) (h2 : (convert 42 9 v2).run Tryz.prog w = .ok (.string s2) w) :
    Calls Tryz.prog 207 #[v1, v2] w fun e w' => e = .returned (.bool (sameS s1 s2)) ∧ w = w' := by
  go_enter Tryz.func207, Tryz.ntmps207
  go_wp2
  go_ret
  exact ⟨rfl, rfl⟩
/-- Two texts' bytes. -/
def BothPost (o : Own) (w : World) (n1 : Nat) (f1 : Nat → Nat) (n2 : Nat) (f2 : Nat → Nat) (e : Ending) (w' : World) : Prop :=
  ∃ g1 g2, e = .returned (.tuple #[.slice (some ⟨g1, 0, none⟩) n1 n1, .slice (some ⟨g2, 0, none⟩) n2 n2, .int .i64 0]) ∧ Fr 0 0 o o w w' ∧ w.heap.size ≤ g1 ∧ w.heap.size ≤ g2 ∧ BytesB w' g1 n1 f1 ∧ BytesB w' g2 n2 f2
set_option maxRecDepth 100000 in
theorem text_both {o : Own} {r p : Nat} {S : EngS} (h1 h2 : Int) (x1 x2 : Ob) (w : World) (ho : Owned o w) (E : EngRep o w r p S) (hx1 : S.ob h1 = some x1) (hk1 : x1.kind = 1) (hx2 : S.ob h2 = some x2) (hk2 : x2.kind = 1) :
    Calls Tryz.prog 121 #[.pointer (some ⟨p, 0, none⟩), .int .i64 h1, .int .i64 h2] w (BothPost o w x1.raw x1.byte x2.raw x2.byte) := by
  have HA := Lib.hid (text_bytes h1 x1 w ho E hx1 hk1)
  have HB := Lib.hid (fun (w1 : World) (F : Fr 0 0 o o w w1) => text_bytes h2 x2 w1 F.fresh (E.keep F (.inr (Nat.zero_le _))) hx2 hk2)
  clear E hx1 hk1 hx2 hk2
  generalize x1.raw = n1 at *
  generalize x1.byte = f1 at *
  generalize x2.raw = n2 at *
  generalize x2.byte = f2 at *
  go_enter Tryz.func121, Tryz.ntmps121
  go_wp2_with fail
  go_at_call 73
  refine HA.out.mono ?_
  rintro e w1 ⟨g1, rfl, F1, l1, B1⟩
  have HF1 := Lib.hid F1
  have HB1 := Lib.hid B1
  have HL1 := Lib.hid l1
  clear F1 B1 l1
  go_wp2_with fail
  go_at_call 73
  refine (HB.out _ HF1.out).mono ?_
  rintro e w2 ⟨g2, rfl, F2, l2, B2⟩
  have HF2 := Lib.hid (HF1.out.trans F2)
  have HB2 := Lib.hid B2
  have HB3 := Lib.hid (HB1.out.of_eq (F2.block g1 HB1.out.lt (.inr (Nat.zero_le _))))
  have HL2 := Lib.hid (Nat.le_trans HF1.out.size l2)
  clear F2 B2 l2
  go_wp2_with fail
  go_ret3
  exact ⟨g1, g2, rfl, HF2.out, HL1.out, HL2.out, HB3.out, HB2.out⟩
set_option maxRecDepth 100000 in
theorem text_same {o : Own} {r p : Nat} {S : EngS} (h1 h2 : Int) (x1 x2 : Ob) (w : World) (ho : Owned o w) (E : EngRep o w r p S) (hx1 : S.ob h1 = some x1) (hk1 : x1.kind = 1) (hx2 : S.ob h2 = some x2) (hk2 : x2.kind = 1) :
    Calls Tryz.prog 189 #[.pointer (some ⟨p, 0, none⟩), .int .i64 h1, .int .i64 h2] w fun e w' => e = .returned (.tuple #[.bool (sameS (strB x1.raw x1.byte) (strB x2.raw x2.byte)), .int .i64 0]) ∧ Fr 0 0 o o w w' := by
  have HB := Lib.hid (text_both h1 h2 x1 x2 w ho E hx1 hk1 hx2 hk2)
  have HE := Lib.hid (fun (g1 g2 : Nat) (w1 : World) (B1 : BytesB w1 g1 x1.raw x1.byte) (B2 : BytesB w1 g2 x2.raw x2.byte) => bytes_equal _ _ _ _ w1 (B1.conv x1.raw) (B2.conv x2.raw))
  clear E hx1 hk1 hx2 hk2
  generalize (strB x1.raw x1.byte) = s1 at *
  generalize (strB x2.raw x2.byte) = s2 at *
  generalize x1.raw = n1 at *
  generalize x1.byte = f1 at *
  generalize x2.raw = n2 at *
  generalize x2.byte = f2 at *
  go_enter Tryz.func189, Tryz.ntmps189
  go_wp2_with fail
  go_at_call 121
  refine HB.out.mono ?_
  rintro e w1 ⟨g1, g2, rfl, F1, l1, l2, B1, B2⟩
  have HF1 := Lib.hid F1
  have HQ := Lib.hid (HE.out _ _ _ B1 B2)
  clear F1 B1 B2 l1 l2
  go_wp2_with (go_at_call 207; refine HQ.out.mono ?_; rintro e w' ⟨rfl, rfl⟩)
  go_ret2
  exact ⟨rfl, HF1.out⟩
end Go.Proofs.YtlpklloagaccoaaGreat
