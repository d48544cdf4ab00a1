/- What CountTells goes by: lists of numbers are the same; boxes made and watched. Condition: twenty boxes at most. Boxes that are watched, and told; calls on them. Condition: twenty boxes at most. -/
import Derived.Test.YtlpklloagaccoaaGreatTells
import Derived.Test.YtlpklloagaccoaaGreatLMoves
import Derived.BigQuiet
import Derived.Outline
import Derived.Test.YtlpklloagaccoaaGreatAlN
import Derived.Test.YtlpklloagaccoaaGreatLaw12
namespace Go.Proofs.YtlpklloagaccoaaGreat
open Go.RowKit
set_option linter.unusedVariables false

set_option maxRecDepth 100000 in
theorem sameInts_yes {o : Own} {xs : List Int} {a b : Option Addr} {ca cb B B' : Nat} (w : World) (ho : Owned o w) (Ra : RdS w B .i64 a xs.length xs) (Rb : RdS w B' .i64 b xs.length xs) (hB : B ≤ w.heap.size) (hB' : B' ≤ w.heap.size) (hl : xs.length < 1099511627776) :
    Calls Tryz.prog 78 #[.slice a xs.length ca, .slice b xs.length cb] w fun e w' => e = .returned (.bool true) ∧ Fr 0 0 o o w w' := by
  have HRa := Lib.hid (fun (wr : World) (F : Fr 0 0 o o w wr) => show RdS wr B .i64 a xs.length xs from Ra.keep fun b hb => F.block b (by omega) (.inr (Nat.zero_le _)))
  have HRb := Lib.hid (fun (wr : World) (F : Fr 0 0 o o w wr) => show RdS wr B' .i64 b xs.length xs from Rb.keep fun b hb => F.block b (by omega) (.inr (Nat.zero_le _)))
  have HO := Lib.hid ho
  clear Ra Rb ho hB hB'
  go_enter Tryz.func78, Tryz.ntmps78
  go_wp2_with fail
  go_loopw [5] (fun iv wr => ∃ (i : Nat), i ≤ xs.length ∧ iv = .int .i64 i ∧ Fr 0 0 o o w wr) (fun iv _ => xs.length - (intOf iv).toNat)
  case atStart => exact ⟨0, by omega, rfl, Fr.refl HO.out⟩
  case round =>
    obtain ⟨i, hi, rfl, Fi⟩ := hrel
    have HF := Lib.hid Fi
    by_cases hin : i < xs.length
    · have hin' : (i : Int) < ((xs.length : Nat) : Int) := by omega
      obtain ⟨b1, f1, h1, _, hc1⟩ := (HRa.out wr Fi).at_ hin
      obtain ⟨b2, f2, h2, _, hc2⟩ := (HRb.out wr Fi).at_ hin
      subst h1 h2
      clear Fi
      generalize xs.getD i 0 = x at *
      go_wp2_with fail
      go_quiet (fail)
      go_wp2_with fail
      exact ⟨⟨i + 1, by omega, by go_num, HF.out.drewN _⟩, by simp [intOf]; omega⟩
    · have hin' : ¬ (i : Int) < ((xs.length : Nat) : Int) := by omega
      clear Fi
      go_wp2_with fail
      go_ret
      exact ⟨rfl, HF.out⟩
end Go.Proofs.YtlpklloagaccoaaGreat
namespace Go.Proofs.YtlpklloagaccoaaGreat
open Go.RowKit
set_option linter.unusedVariables false

/-- The boxes as they are made. -/
structure TkM (S : EngS) (hs : List Int) : Prop where
  obs : ∀ j, j < hs.length → ∃ y, S.ob (hs.getD j 0) = some y
  wat : ∀ k, S.wat k = true → ∃ y, S.ob k = some y
  pend : S.pend = []
  al : AlN S.L 20 1 hs.length
/-- .. as they are told. -/
structure TkT (S : EngS) (hs wl : List Int) : Prop where
  obs : ∀ j, j < hs.length → ∃ y, S.ob (hs.getD j 0) = some y
  pend : S.pend = wl
theorem TkM.first : TkM (newEng 20 1000) [] :=
  ⟨fun j h => absurd h (Nat.not_lt_zero _), fun k h => (by cases h), rfl, AlN.new 20 (by omega)⟩
theorem TkM.more {S : EngS} {hs : List Int} (M : TkM S hs) {L' : Al} {a : Nat} (hno : S.ob (a : Int) = none) (hA : AlN L' 20 1 (hs.length + 1)) :
    TkM (makeA S L' a 5 1 0) (hs ++ [(a : Int)]) ∧ (makeA S L' a 5 1 0).wat (a : Int) = false ∧ (makeA S L' a 5 1 0).ob (a : Int) = some (newOb 5 1 0) := by
  have hne : ∀ m y, S.ob m = some y → m ≠ (a : Int) := fun m y h e => by rw [e, hno] at h; cases h
  have hob : ∀ m y, S.ob m = some y → (makeA S L' a 5 1 0).ob m = some y := fun m y h => by
    show updI S.ob (a : Int) _ m = _
    unfold updI
    rw [if_neg (hne m y h)]; exact h
  have hl : (hs ++ [(a : Int)]).length = hs.length + 1 := by simp
  refine ⟨⟨fun j hj => ?_, fun k hk => ?_, M.pend, by rw [hl]; exact hA⟩, ?_, if_pos rfl⟩
  · by_cases h : j < hs.length
    · rw [getD_append_lt h]
      obtain ⟨y, hy⟩ := M.obs j h
      exact ⟨y, hob _ _ hy⟩
    · obtain rfl : j = hs.length := by omega
      rw [getD_append_at]
      exact ⟨_, if_pos rfl⟩
  · obtain ⟨y, hy⟩ := M.wat k hk
    exact ⟨y, hob _ _ hy⟩
  · show S.wat (a : Int) = false
    cases h : S.wat (a : Int) with
    | false => rfl
    | true =>
      obtain ⟨y, hy⟩ := M.wat _ h
      rw [hno] at hy; cases hy
theorem TkM.watch {S : EngS} {hs : List Int} (M : TkM S hs) {h : Int} {y : Ob} (hy : S.ob h = some y) : TkM (watA S h true) hs := by
  refine ⟨M.obs, fun k hk => ?_, M.pend, M.al⟩
  have hk' : updS S.wat h true k = true := hk
  unfold updS at hk'
  by_cases e : k = h
  · subst e; exact ⟨y, hy⟩
  · rw [if_neg e] at hk'; exact M.wat k hk'
theorem TkM.t {S : EngS} {hs : List Int} (M : TkM S hs) : TkT S hs [] := ⟨M.obs, M.pend⟩
theorem TkT.tell {S : EngS} {hs wl : List Int} (M : TkT S hs wl) (h : Int) : TkT (pendA (watA S h false) (S.pend ++ [h])) hs (wl ++ [h]) := ⟨M.obs, by show S.pend ++ [h] = _; rw [M.pend]⟩
def MkT (o : Own) (w : World) (p : Nat) (hs : List Int) : Prop := ∃ S, EngRep o w 1 p S ∧ TkM S hs
/-- .. and the last one is made, and not yet watched, or is. -/
def MkT1 (o : Own) (w : World) (p : Nat) (hs : List Int) (a : Int) (b : Bool) : Prop := ∃ S, EngRep o w 1 p S ∧ TkM S hs ∧ S.wat a = b ∧ ∃ y, S.ob a = some y
def TlT (o : Own) (w : World) (p : Nat) (hs wl : List Int) : Prop := ∃ S, EngRep o w 1 p S ∧ TkT S hs wl
/-- .. one of which is watched, or not. -/
def TlT1 (o : Own) (w : World) (p : Nat) (hs wl : List Int) (a : Int) (b : Bool) : Prop := ∃ S, EngRep o w 1 p S ∧ TkT S hs wl ∧ S.wat a = b ∧ ∃ y, S.ob a = some y
section
variable {o : Own} {p : Nat} {hs wl : List Int}
theorem tk_make (w0 w1 : World) (F : Fr 0 0 o o w0 w1) (A : MkT o w0 p hs) (hl : hs.length < 20) :
    Calls Tryz.prog 66 #[.pointer (some ⟨p, 0, none⟩), .int .i64 5, .int .i64 1, .int .i64 0] w1 fun e w' => ∃ (a : Int) (o' : Own), e = .returned (.tuple #[.int .i64 a, .int .i64 0]) ∧ Fr 1 30 o o' w0 w' ∧ MkT1 o' w' p (hs ++ [a]) a false := by
  obtain ⟨S, E, M⟩ := A
  obtain ⟨L', hT, hA⟩ := M.al.step (m := wordsN 1 0) (by omega) (by decide) (by show 2 + hs.length / 16 ≤ 20; omega)
  refine (rmake 5 1 0 5 1 0 rfl rfl rfl L' _ w1 F.fresh (E.keep F (.inr (Nat.zero_le _))) M.al.ok (by omega) (by omega) (by omega) hT).mono fun e w' hh => ?_
  obtain ⟨⟨h1, o', F', E'⟩, h2, _, h4, h5, h6⟩ := hh
  obtain ⟨k1, k2, k3⟩ := M.more h2 hA
  exact ⟨_, o', h1, (F.none 1 30).trans F', _, E', k1, k2, _, k3⟩
theorem tk_tell_no {a : Int} (w0 w1 : World) (F : Fr 0 0 o o w0 w1) (A : MkT1 o w0 p hs a false) :
    Calls Tryz.prog 75 #[.pointer (some ⟨p, 0, none⟩), .int .i64 a] w1 fun e w' => e = .returned (.int .i64 1) ∧ Fr 0 0 o o w0 w' := by
  obtain ⟨S, E, M, hw, y, hy⟩ := A
  exact (rtell_no a y w1 F.fresh (E.keep F (.inr (Nat.zero_le _))) hy hw).mono fun e w' hh => ⟨hh.1, F.trans hh.2⟩
theorem tk_watch {a : Int} (w0 w1 : World) (F : Fr 0 0 o o w0 w1) (A : MkT1 o w0 p hs a false) :
    Calls Tryz.prog 76 #[.pointer (some ⟨p, 0, none⟩), .int .i64 a] w1 fun e w' => ∃ o', e = .returned (.int .i64 0) ∧ Fr 1 30 o o' w0 w' ∧ MkT1 o' w' p hs a true := by
  obtain ⟨S, E, M, hw, y, hy⟩ := A
  refine (rwatch a y w1 F.fresh (E.keep F (.inr (Nat.zero_le _))) hy).mono fun e w' hh => ?_
  obtain ⟨h1, o', F', E'⟩ := hh
  exact ⟨o', h1, (F.none 1 30).trans F', _, E', M.watch hy, if_pos rfl, y, hy⟩
theorem tk_watched {a : Int} (w0 w1 : World) (F : Fr 0 0 o o w0 w1) (A : MkT1 o w0 p hs a true) :
    Calls Tryz.prog 77 #[.pointer (some ⟨p, 0, none⟩), .int .i64 a] w1 fun e w' => e = .returned (.bool true) ∧ Fr 0 0 o o w0 w' := by
  obtain ⟨S, E, M, hw, y, hy⟩ := A
  exact (rwatched a w1 (E.keep F (.inr (Nat.zero_le _)))).mono fun e w' hh => ⟨by rw [hh.1, hw], by rw [← hh.2]; exact F⟩
theorem tl_watched {a : Int} {b : Bool} (w0 w1 : World) (F : Fr 0 0 o o w0 w1) (A : TlT1 o w0 p hs wl a b) :
    Calls Tryz.prog 77 #[.pointer (some ⟨p, 0, none⟩), .int .i64 a] w1 fun e w' => e = .returned (.bool b) ∧ Fr 0 0 o o w0 w' := by
  obtain ⟨S, E, M, hw, y, hy⟩ := A
  exact (rwatched a w1 (E.keep F (.inr (Nat.zero_le _)))).mono fun e w' hh => ⟨by rw [hh.1, hw], by rw [← hh.2]; exact F⟩
theorem tl_no {a : Int} (w0 w1 : World) (F : Fr 0 0 o o w0 w1) (A : TlT1 o w0 p hs wl a false) :
    Calls Tryz.prog 75 #[.pointer (some ⟨p, 0, none⟩), .int .i64 a] w1 fun e w' => e = .returned (.int .i64 1) ∧ Fr 0 0 o o w0 w' := by
  obtain ⟨S, E, M, hw, y, hy⟩ := A
  exact (rtell_no a y w1 F.fresh (E.keep F (.inr (Nat.zero_le _))) hy hw).mono fun e w' hh => ⟨hh.1, F.trans hh.2⟩
theorem tl_yes {a : Int} (w0 w1 : World) (F : Fr 0 0 o o w0 w1) (A : TlT1 o w0 p hs wl a true) (hl : wl.length ≤ 60) :
    Calls Tryz.prog 75 #[.pointer (some ⟨p, 0, none⟩), .int .i64 a] w1 fun e w' => ∃ o', e = .returned (.int .i64 0) ∧ Fr 1 30 o o' w0 w' ∧ TlT1 o' w' p hs (wl ++ [a]) a false := by
  obtain ⟨S, E, M, hw, y, hy⟩ := A
  refine (rtell a y w1 F.fresh (E.keep F (.inr (Nat.zero_le _))) hy hw (by rw [M.pend]; omega)).mono fun e w' hh => ?_
  obtain ⟨h1, o', F', E'⟩ := hh
  exact ⟨o', h1, (F.none 1 30).trans F', _, E', M.tell a, if_pos rfl, y, hy⟩
theorem tl_pending (w0 w1 : World) (F : Fr 0 0 o o w0 w1) (A : TlT o w0 p hs wl) (hl : wl.length ≤ 60) :
    Calls Tryz.prog 79 #[.pointer (some ⟨p, 0, none⟩)] w1 fun e w' => ∃ A cap, e = .returned (.slice A wl.length cap) ∧ Fr 0 0 o o w0 w' ∧ RdS w' w'.heap.size .i64 A wl.length wl := by
  obtain ⟨S, E, M⟩ := A
  refine (rpending w1 F.fresh (E.keep F (.inr (Nat.zero_le _))) (by rw [M.pend]; omega)).mono fun e w' hh => ?_
  obtain ⟨v, h1, h2, h3⟩ := hh
  rw [M.pend] at h3
  obtain ⟨A, cap, hv, hR⟩ := h3.row.rd
  exact ⟨A, cap, by rw [h1, hv], F.trans h2, hR⟩
theorem tl_take {a : Int} (w0 w1 : World) (F : Fr 0 0 o o w0 w1) (A : TlT o w0 p hs (a :: wl)) (hl : wl.length ≤ 60) :
    Calls Tryz.prog 80 #[.pointer (some ⟨p, 0, none⟩)] w1 fun e w' => ∃ o', e = .returned (.tuple #[.int .i64 a, .bool true]) ∧ Fr 1 30 o o' w0 w' ∧ TlT o' w' p hs wl := by
  obtain ⟨S, E, M⟩ := A
  refine (rtake w1 F.fresh (E.keep F (.inr (Nat.zero_le _))) M.pend (by omega)).mono fun e w' hh => ?_
  obtain ⟨h1, o', F', E'⟩ := hh
  exact ⟨o', h1, (F.none 1 30).trans F', _, E', M.obs, rfl⟩
theorem tl_take_no (w0 w1 : World) (F : Fr 0 0 o o w0 w1) (A : TlT o w0 p hs []) :
    Calls Tryz.prog 80 #[.pointer (some ⟨p, 0, none⟩)] w1 fun e w' => e = .returned (.tuple #[.int .i64 0, .bool false]) ∧ Fr 0 0 o o w0 w' := by
  obtain ⟨S, E, M⟩ := A
  exact (rtake_no w1 F.fresh (E.keep F (.inr (Nat.zero_le _))) M.pend).mono fun e w' hh => ⟨hh.1, by rw [← hh.2]; exact F⟩
theorem EngRep.none5 {w : World} {r : Nat} {S : EngS} (E : EngRep o w r p S) : S.ob 5 = none := by
  obtain ⟨ps, pt, pz, pp, bw, bk, v, K, E, A⟩ := E
  cases hx : S.ob 5 with
  | none => rfl
  | some x =>
    obtain ⟨y, hy, _⟩ := A.of_some hx
    have := (E.sp.hrange hy).1
    omega
theorem tl_tell5 (w0 w1 : World) (F : Fr 0 0 o o w0 w1) (A : TlT o w0 p hs wl) :
    Calls Tryz.prog 75 #[.pointer (some ⟨p, 0, none⟩), .int .i64 5] w1 fun e w' => e = .returned (.int .i64 3) ∧ Fr 0 0 o o w0 w' := by
  obtain ⟨S, E, M⟩ := A
  exact (rtell_none 5 w1 F.fresh (E.keep F (.inr (Nat.zero_le _))) E.none5).mono fun e w' hh => ⟨hh.1, F.trans hh.2⟩
theorem tl_watch5 (w0 w1 : World) (F : Fr 0 0 o o w0 w1) (A : TlT o w0 p hs wl) :
    Calls Tryz.prog 76 #[.pointer (some ⟨p, 0, none⟩), .int .i64 5] w1 fun e w' => e = .returned (.int .i64 3) ∧ Fr 0 0 o o w0 w' := by
  obtain ⟨S, E, M⟩ := A
  exact (rwatch_no 5 w1 F.fresh (E.keep F (.inr (Nat.zero_le _))) E.none5).mono fun e w' hh => ⟨hh.1, F.trans hh.2⟩
end
theorem MkT.keep {lo hi : Nat} {o o' : Own} {w w' : World} {p : Nat} {hs : List Int} (h : MkT o w p hs) (k : Fr lo hi o o' w w') (hr : 30 ≤ lo ∨ hi ≤ 1) : MkT o' w' p hs :=
  let ⟨S, E, M⟩ := h; ⟨S, E.keep k (by omega), M⟩
theorem MkT1.keep {lo hi : Nat} {o o' : Own} {w w' : World} {p : Nat} {hs : List Int} {a : Int} {b : Bool} (h : MkT1 o w p hs a b) (k : Fr lo hi o o' w w') (hr : 30 ≤ lo ∨ hi ≤ 1) : MkT1 o' w' p hs a b :=
  let ⟨S, E, M⟩ := h; ⟨S, E.keep k (by omega), M⟩
theorem MkT1.mk {o : Own} {w : World} {p : Nat} {hs : List Int} {a : Int} {b : Bool} (h : MkT1 o w p hs a b) : MkT o w p hs := let ⟨S, E, M, _⟩ := h; ⟨S, E, M⟩
theorem TlT.keep {lo hi : Nat} {o o' : Own} {w w' : World} {p : Nat} {hs wl : List Int} (h : TlT o w p hs wl) (k : Fr lo hi o o' w w') (hr : 30 ≤ lo ∨ hi ≤ 1) : TlT o' w' p hs wl :=
  let ⟨S, E, M⟩ := h; ⟨S, E.keep k (by omega), M⟩
theorem TlT1.tl {o : Own} {w : World} {p : Nat} {hs wl : List Int} {a : Int} {b : Bool} (h : TlT1 o w p hs wl a b) : TlT o w p hs wl := let ⟨S, E, M, _⟩ := h; ⟨S, E, M⟩
theorem TlT.one {o : Own} {w : World} {p : Nat} {hs wl : List Int} (h : TlT o w p hs wl) {j : Nat} (hj : j < hs.length) : ∃ b, TlT1 o w p hs wl (hs.getD j 0) b := let ⟨S, E, M⟩ := h; ⟨_, S, E, M, rfl, M.obs j hj⟩
end Go.Proofs.YtlpklloagaccoaaGreat
