/- Boxes in the three cells of an object, moved about; how often each is counted. Plain Lean. Condition: ten boxes at most. What CountTells goes by: lists of numbers are the same; boxes made and watched. Condition: twenty boxes at most. Boxes that are watched, and told; calls on them. Condition: twenty boxes at most. More about rows of a walk's own. No condition. -/
import Derived.Test.YtlpklloagaccoaaGreatLaw12
import Derived.Test.YtlpklloagaccoaaGreatSl
import Derived.Test.YtlpklloagaccoaaGreatTells
import Derived.BigQuiet
import Derived.Outline
import Derived.Test.YtlpklloagaccoaaGreatRing
import Derived.Test.YtlpklloagaccoaaGreatDelF
import Derived.Test.YtlpklloagaccoaaGreatHeapPop
namespace Go.Proofs.YtlpklloagaccoaaGreat
open Go.RowKit
set_option linter.unusedVariables false

/-- What lies in a cell: 1 .. n: a box; else nothing. -/
def cvM (hs : List Int) (a : Nat) : Nat × Int := if 1 ≤ a ∧ a ≤ hs.length then (3, hs.getD (a - 1) 0) else (0, 0)
def indM (a j : Nat) : Int := if a = j + 1 then 1 else 0
def cntM (g : Nat → Nat) (j : Nat) : Int := indM (g 0) j + indM (g 1) j + indM (g 2) j
/-- The boxes as they are made. -/
structure MkM (S : EngS) (b : Int) (hs : List Int) : Prop where
  lim : S.lim = 1000
  weak : ∀ k, S.weak k = false
  st : ∀ k, S.st k = false
  tot0 : ∀ k, S.tot k = 0
  obj : S.ob b = some (newOb 7 3 0)
  obs : ∀ j, j < hs.length → ∃ y, S.ob (hs.getD j 0) = some y
  nd : ∀ i j, i < hs.length → j < hs.length → hs.getD i 0 = hs.getD j 0 → i = j
  small : ∀ j, j < hs.length → in64 (hs.getD j 0)
  ok : S.L.ok = true
  n : S.L.n = 20
  t : S.L.t ≤ hs.length + 2
structure MvM (S : EngS) (b : Int) (hs : List Int) (g : Nat → Nat) : Prop where
  lim : S.lim = 1000
  weak : ∀ k, S.weak k = false
  st : ∀ k, S.st k = false
  obj : ∃ x, S.ob b = some x ∧ x.cells = 3 ∧ ∀ c, c < 3 → x.val c = cvM hs (g c)
  obs : ∀ j, j < hs.length → ∃ y, S.ob (hs.getD j 0) = some y
  nd : ∀ i j, i < hs.length → j < hs.length → hs.getD i 0 = hs.getD j 0 → i = j
  small : ∀ j, j < hs.length → in64 (hs.getD j 0)
  tot : ∀ j, j < hs.length → S.tot (hs.getD j 0) = cntM g j
theorem getD_append_lt {l : List Int} {x : Int} {j : Nat} (h : j < l.length) : (l ++ [x]).getD j 0 = l.getD j 0 := by simp [List.getD, List.getElem?_append_left h]
theorem getD_append_at {l : List Int} {x : Int} : (l ++ [x]).getD l.length 0 = x := by simp [List.getD]
theorem MkM.first {L' : Al} {a : Nat} (hok : L'.ok = true) (hn : L'.n = 20) (ht : L'.t ≤ 2) : MkM (makeA (newEng 20 1000) L' a 7 3 0) (a : Int) [] :=
  ⟨rfl, fun _ => rfl, fun _ => rfl, fun _ => rfl, if_pos rfl, fun j h => absurd h (Nat.not_lt_zero _), fun i j h => absurd h (Nat.not_lt_zero _), fun j h => absurd h (Nat.not_lt_zero _), hok, hn, ht⟩
theorem MkM.more {S : EngS} {b : Int} {hs : List Int} (M : MkM S b hs) {L' : Al} {a : Nat} (hno : S.ob (a : Int) = none) (ha : a < 262144) (hok : L'.ok = true) (hn : L'.n = 20) (ht : L'.t ≤ hs.length + 3) : MkM (makeA S L' a 5 1 0) b (hs ++ [(a : Int)]) := by
  have hne : ∀ m y, S.ob m = some y → m ≠ (a : Int) := fun m y h e => by rw [e, hno] at h; cases h
  have hob : ∀ m y, S.ob m = some y → (makeA S L' a 5 1 0).ob m = some y := fun m y h => by
    show updI S.ob (a : Int) _ m = _
    unfold updI
    rw [if_neg (hne m y h)]; exact h
  have hl : (hs ++ [(a : Int)]).length = hs.length + 1 := by simp
  refine ⟨M.lim, fun k => M.weak k, M.st, M.tot0, hob _ _ M.obj, fun j hj => ?_, fun i j hi hj e => ?_, fun j hj => ?_, hok, hn, by rw [hl]; exact ht⟩
  · by_cases h : j < hs.length
    · rw [getD_append_lt h]
      obtain ⟨y, hy⟩ := M.obs j h
      exact ⟨y, hob _ _ hy⟩
    · obtain rfl : j = hs.length := by omega
      rw [getD_append_at]
      exact ⟨_, if_pos rfl⟩
  · by_cases h : i < hs.length <;> by_cases h' : j < hs.length
    · rw [getD_append_lt h, getD_append_lt h'] at e; exact M.nd i j h h' e
    · obtain rfl : j = hs.length := by omega
      rw [getD_append_lt h, getD_append_at] at e
      obtain ⟨y, hy⟩ := M.obs i h
      exact absurd e (hne _ _ hy)
    · obtain rfl : i = hs.length := by omega
      rw [getD_append_lt h', getD_append_at] at e
      obtain ⟨y, hy⟩ := M.obs j h'
      exact absurd e.symm (hne _ _ hy)
    · omega
  · by_cases h : j < hs.length
    · rw [getD_append_lt h]; exact M.small j h
    · obtain rfl : j = hs.length := by omega
      rw [getD_append_at]; unfold in64; omega
theorem MkM.mv {S : EngS} {b : Int} {hs : List Int} (M : MkM S b hs) : MvM S b hs (fun _ => 0) := by
  refine ⟨M.lim, M.weak, M.st, ⟨_, M.obj, rfl, fun c hc => ?_⟩, M.obs, M.nd, M.small, fun j hj => ?_⟩
  · show _ = if 1 ≤ 0 ∧ 0 ≤ hs.length then _ else ((0 : Nat), (0 : Int))
    rw [if_neg (by omega)]
    rfl
  · rw [M.tot0]; show (0 : Int) = (if 0 = j + 1 then 1 else 0) + (if 0 = j + 1 then 1 else 0) + (if 0 = j + 1 then 1 else 0); rw [if_neg (by omega)]; rfl
theorem cvM_some {hs : List Int} {a : Nat} (h : (cvM hs a).1 = 3) : 1 ≤ a ∧ a ≤ hs.length ∧ (cvM hs a).2 = hs.getD (a - 1) 0 := by
  unfold cvM at h ⊢
  by_cases e : 1 ≤ a ∧ a ≤ hs.length
  · rw [if_pos e]; exact ⟨e.1, e.2, rfl⟩
  · rw [if_neg e] at h; cases h
theorem MvM.le3 {S : EngS} {b : Int} {hs : List Int} {g : Nat → Nat} (M : MvM S b hs g) {j : Nat} (hj : j < hs.length) : 0 ≤ S.tot (hs.getD j 0) ∧ S.tot (hs.getD j 0) ≤ 3 := by
  rw [M.tot j hj]; unfold cntM indM
  split <;> split <;> split <;> omega
/-- Where a cell's box stands in the list, as a count of one. -/
theorem cvM_ind {hs : List Int} (nd : ∀ i j, i < hs.length → j < hs.length → hs.getD i 0 = hs.getD j 0 → i = j) (a j : Nat) (hj : j < hs.length) : (if (cvM hs a).1 = 3 ∧ (cvM hs a).2 = hs.getD j 0 then (1 : Int) else 0) = indM a j := by
  unfold indM
  by_cases e : a = j + 1
  · subst e
    have : cvM hs (j + 1) = (3, hs.getD j 0) := by unfold cvM; rw [if_pos (by omega)]; rfl
    rw [this, if_pos rfl]
    exact if_pos ⟨rfl, rfl⟩
  · rw [if_neg e, if_neg]
    rintro ⟨h1, h2⟩
    obtain ⟨k1, k2, k3⟩ := cvM_some h1
    rw [k3] at h2
    have := nd _ _ (by omega) hj h2
    omega
def updM (g : Nat → Nat) (c v : Nat) : Nat → Nat := fun j => if j = c then v else g j
theorem cntM_upd {g : Nat → Nat} {c v j : Nat} (hc : c < 3) : cntM (updM g c v) j = cntM g j + indM v j - indM (g c) j := by
  have hcs : c = 0 ∨ c = 1 ∨ c = 2 := by omega
  unfold cntM updM
  rcases hcs with rfl | rfl | rfl
  · rw [if_pos rfl, if_neg (by omega), if_neg (by omega)]; omega
  · rw [if_neg (by omega), if_pos rfl, if_neg (by omega)]; omega
  · rw [if_neg (by omega), if_neg (by omega), if_pos rfl]; omega
theorem setA_limM (S : EngS) (h : Int) (x : Ob) (k q : Nat) (n : Int) : (setA S h x k q n).lim = S.lim := by
  unfold setA
  split
  · rfl
  · split
    · split <;> rfl
    · split <;> rfl
theorem MvM.set {S : EngS} {b : Int} {hs : List Int} {g : Nat → Nat} (M : MvM S b hs g) {c : Nat} (hc : c < 3) (v : Nat) {x : Ob} (hx : S.ob b = some x) (h3 : x.cells = 3) (hv : ∀ c, c < 3 → x.val c = cvM hs (g c)) :
    MvM (setA S b x c (cvM hs v).1 (cvM hs v).2) b hs (updM g c v) := by
  have hold : (x.val c).1 = 3 → S.st (x.val c).2 = false ∧ 1 ≤ S.tot (x.val c).2 := by
    intro h
    refine ⟨M.st _, ?_⟩
    rw [hv c hc] at h ⊢
    obtain ⟨k1, k2, k3⟩ := cvM_some h
    rw [k3, M.tot _ (by omega)]
    unfold cntM
    have h1 : indM (g c) (g c - 1) = 1 := by unfold indM; exact if_pos (by omega)
    have hp : ∀ a j, 0 ≤ indM a j := fun a j => by unfold indM; split <;> omega
    have hcs : c = 0 ∨ c = 1 ∨ c = 2 := by omega
    have p0 := hp (g 0) (g c - 1)
    have p1 := hp (g 1) (g c - 1)
    have p2 := hp (g 2) (g c - 1)
    rcases hcs with rfl | rfl | rfl <;> omega
  have hnew : (cvM hs v).1 = 3 → S.st (cvM hs v).2 = false ∧ S.tot (cvM hs v).2 + 1 < S.lim := by
    intro h
    obtain ⟨k1, k2, k3⟩ := cvM_some h
    have := M.le3 (j := v - 1) (by omega)
    rw [k3]
    exact ⟨M.st _, by rw [M.lim]; omega⟩
  have T := setA_tot (h := b) (i := c) (M.weak b) hold hnew
  have hob := setA_ob S b x c (cvM hs v).1 (cvM hs v).2
  refine ⟨(setA_limM ..).trans M.lim, fun k => by rw [setA_weak]; exact M.weak k, fun k => (T k).2.trans (M.st k), ⟨setVal x c ((cvM hs v).1, (cvM hs v).2), by rw [hob]; exact if_pos rfl, h3, fun c' hc' => ?_⟩, fun j hj => ?_, M.nd, M.small, fun j hj => ?_⟩
  · show (if c' = c then ((cvM hs v).1, (cvM hs v).2) else x.val c') = cvM hs (if c' = c then v else g c')
    by_cases e : c' = c
    · rw [if_pos e, if_pos e]
    · rw [if_neg e, if_neg e]; exact hv c' hc'
  · rw [hob]
    unfold updI
    split
    · exact ⟨_, rfl⟩
    · exact M.obs j hj
  · rw [(T _).1, M.tot j hj, cntM_upd hc, cvM_ind M.nd v j hj, hv c hc, cvM_ind M.nd (g c) j hj]
theorem low_mod (x : Int) (d : Nat) (hd : 0 < d) : ∃ c : Nat, (bits .and .i64 x 1023).tmod (d : Int) = (c : Int) ∧ c < d := by
  obtain ⟨k, hk, _⟩ := and_low x 1023 (by omega)
  have hk' : bits .and .i64 x 1023 = (k : Int) := hk
  exact ⟨k % d, by rw [hk']; exact (Int.ofNat_tmod k d).symm, Nat.mod_lt _ hd⟩
theorem LRow.cell {o : Own} {w : World} {r g n cap j : Nat} {xs : List Int} (h : LRow o w r (.slice (some ⟨g, 0, none⟩) n cap) xs) (hj : j < xs.length) : w.cell? ⟨g, j, none⟩ = some (.int .i64 (xs.getD j 0)) := by
  rcases h.1.form with ⟨h1, _⟩ | ⟨g', cap', h1, R⟩
  · cases h1
  · simp only [Value.slice.injEq, Option.some.injEq, Addr.mk.injEq] at h1
    obtain ⟨⟨rfl, _⟩, _, _⟩ := h1
    exact R.cell hj
end Go.Proofs.YtlpklloagaccoaaGreat
namespace Go.Proofs.YtlpklloagaccoaaGreat
open Go.RowKit
set_option linter.unusedVariables false

set_option maxRecDepth 100000 in
theorem sameInts_yes {o : Own} {xs : List Int} {a b : Option Addr} {ca cb B B' : Nat} (w : World) (ho : Owned o w) (Ra : RdS w B .i64 a xs.length xs) (Rb : RdS w B' .i64 b xs.length xs) (hB : B ≤ w.heap.size) (hB' : B' ≤ w.heap.size) (hl : xs.length < 1099511627776) :
    Calls Tryz.prog 78 #[.slice a xs.length ca, .slice b xs.length cb] w fun e w' => e = .returned (.bool true) ∧ Fr 0 0 o o w w' := by
  have HRa := Lib.hid (fun (wr : World) (F : Fr 0 0 o o w wr) => show RdS wr B .i64 a xs.length xs from Ra.keep fun b hb => F.block b (by omega) (.inr (Nat.zero_le _)))
  have HRb := Lib.hid (fun (wr : World) (F : Fr 0 0 o o w wr) => show RdS wr B' .i64 b xs.length xs from Rb.keep fun b hb => F.block b (by omega) (.inr (Nat.zero_le _)))
  have HO := Lib.hid ho
  clear Ra Rb ho hB hB'
  go_enter Tryz.func78, Tryz.ntmps78
  go_wp2_with fail
  go_loopw [5] (fun iv wr => ∃ (i : Nat), i ≤ xs.length ∧ iv = .int .i64 i ∧ Fr 0 0 o o w wr) (fun iv _ => xs.length - (intOf iv).toNat)
  case atStart => exact ⟨0, by omega, rfl, Fr.refl HO.out⟩
  case round =>
    obtain ⟨i, hi, rfl, Fi⟩ := hrel
    have HF := Lib.hid Fi
    by_cases hin : i < xs.length
    · have hin' : (i : Int) < ((xs.length : Nat) : Int) := by omega
      obtain ⟨b1, f1, h1, _, hc1⟩ := (HRa.out wr Fi).at_ hin
      obtain ⟨b2, f2, h2, _, hc2⟩ := (HRb.out wr Fi).at_ hin
      subst h1 h2
      clear Fi
      generalize xs.getD i 0 = x at *
      go_wp2_with fail
      go_quiet (fail)
      go_wp2_with fail
      exact ⟨⟨i + 1, by omega, by go_num, HF.out.drewN _⟩, by simp [intOf]; omega⟩
    · have hin' : ¬ (i : Int) < ((xs.length : Nat) : Int) := by omega
      clear Fi
      go_wp2_with fail
      go_ret
      exact ⟨rfl, HF.out⟩
end Go.Proofs.YtlpklloagaccoaaGreat
namespace Go.Proofs.YtlpklloagaccoaaGreat
open Go.RowKit
set_option linter.unusedVariables false

/-- The boxes as they are made. -/
structure TkM (S : EngS) (hs : List Int) : Prop where
  obs : ∀ j, j < hs.length → ∃ y, S.ob (hs.getD j 0) = some y
  wat : ∀ k, S.wat k = true → ∃ y, S.ob k = some y
  pend : S.pend = []
  al : AlN S.L 20 1 hs.length
/-- .. as they are told. -/
structure TkT (S : EngS) (hs wl : List Int) : Prop where
  obs : ∀ j, j < hs.length → ∃ y, S.ob (hs.getD j 0) = some y
  pend : S.pend = wl
theorem TkM.first : TkM (newEng 20 1000) [] :=
  ⟨fun j h => absurd h (Nat.not_lt_zero _), fun k h => (by cases h), rfl, AlN.new 20 (by omega)⟩
theorem TkM.more {S : EngS} {hs : List Int} (M : TkM S hs) {L' : Al} {a : Nat} (hno : S.ob (a : Int) = none) (hA : AlN L' 20 1 (hs.length + 1)) :
    TkM (makeA S L' a 5 1 0) (hs ++ [(a : Int)]) ∧ (makeA S L' a 5 1 0).wat (a : Int) = false ∧ (makeA S L' a 5 1 0).ob (a : Int) = some (newOb 5 1 0) := by
  have hne : ∀ m y, S.ob m = some y → m ≠ (a : Int) := fun m y h e => by rw [e, hno] at h; cases h
  have hob : ∀ m y, S.ob m = some y → (makeA S L' a 5 1 0).ob m = some y := fun m y h => by
    show updI S.ob (a : Int) _ m = _
    unfold updI
    rw [if_neg (hne m y h)]; exact h
  have hl : (hs ++ [(a : Int)]).length = hs.length + 1 := by simp
  refine ⟨⟨fun j hj => ?_, fun k hk => ?_, M.pend, by rw [hl]; exact hA⟩, ?_, if_pos rfl⟩
  · by_cases h : j < hs.length
    · rw [getD_append_lt h]
      obtain ⟨y, hy⟩ := M.obs j h
      exact ⟨y, hob _ _ hy⟩
    · obtain rfl : j = hs.length := by omega
      rw [getD_append_at]
      exact ⟨_, if_pos rfl⟩
  · obtain ⟨y, hy⟩ := M.wat k hk
    exact ⟨y, hob _ _ hy⟩
  · show S.wat (a : Int) = false
    cases h : S.wat (a : Int) with
    | false => rfl
    | true =>
      obtain ⟨y, hy⟩ := M.wat _ h
      rw [hno] at hy; cases hy
theorem TkM.watch {S : EngS} {hs : List Int} (M : TkM S hs) {h : Int} {y : Ob} (hy : S.ob h = some y) : TkM (watA S h true) hs := by
  refine ⟨M.obs, fun k hk => ?_, M.pend, M.al⟩
  have hk' : updS S.wat h true k = true := hk
  unfold updS at hk'
  by_cases e : k = h
  · subst e; exact ⟨y, hy⟩
  · rw [if_neg e] at hk'; exact M.wat k hk'
theorem TkM.t {S : EngS} {hs : List Int} (M : TkM S hs) : TkT S hs [] := ⟨M.obs, M.pend⟩
theorem TkT.tell {S : EngS} {hs wl : List Int} (M : TkT S hs wl) (h : Int) : TkT (pendA (watA S h false) (S.pend ++ [h])) hs (wl ++ [h]) := ⟨M.obs, by show S.pend ++ [h] = _; rw [M.pend]⟩
def MkT (o : Own) (w : World) (p : Nat) (hs : List Int) : Prop := ∃ S, EngRep o w 1 p S ∧ TkM S hs
/-- .. and the last one is made, and not yet watched, or is. -/
def MkT1 (o : Own) (w : World) (p : Nat) (hs : List Int) (a : Int) (b : Bool) : Prop := ∃ S, EngRep o w 1 p S ∧ TkM S hs ∧ S.wat a = b ∧ ∃ y, S.ob a = some y
def TlT (o : Own) (w : World) (p : Nat) (hs wl : List Int) : Prop := ∃ S, EngRep o w 1 p S ∧ TkT S hs wl
/-- .. one of which is watched, or not. -/
def TlT1 (o : Own) (w : World) (p : Nat) (hs wl : List Int) (a : Int) (b : Bool) : Prop := ∃ S, EngRep o w 1 p S ∧ TkT S hs wl ∧ S.wat a = b ∧ ∃ y, S.ob a = some y
section
variable {o : Own} {p : Nat} {hs wl : List Int}
theorem tk_make (w0 w1 : World) (F : Fr 0 0 o o w0 w1) (A : MkT o w0 p hs) (hl : hs.length < 20) :
    Calls Tryz.prog 66 #[.pointer (some ⟨p, 0, none⟩), .int .i64 5, .int .i64 1, .int .i64 0] w1 fun e w' => ∃ (a : Int) (o' : Own), e = .returned (.tuple #[.int .i64 a, .int .i64 0]) ∧ Fr 1 30 o o' w0 w' ∧ MkT1 o' w' p (hs ++ [a]) a false := by
  obtain ⟨S, E, M⟩ := A
  obtain ⟨L', hT, hA⟩ := M.al.step (m := wordsN 1 0) (by omega) (by decide) (by show 2 + hs.length / 16 ≤ 20; omega)
  refine (rmake 5 1 0 5 1 0 rfl rfl rfl L' _ w1 F.fresh (E.keep F (.inr (Nat.zero_le _))) M.al.ok (by omega) (by omega) (by omega) hT).mono fun e w' hh => ?_
  obtain ⟨⟨h1, o', F', E'⟩, h2, _, h4, h5, h6⟩ := hh
  obtain ⟨k1, k2, k3⟩ := M.more h2 hA
  exact ⟨_, o', h1, (F.none 1 30).trans F', _, E', k1, k2, _, k3⟩
theorem tk_tell_no {a : Int} (w0 w1 : World) (F : Fr 0 0 o o w0 w1) (A : MkT1 o w0 p hs a false) :
    Calls Tryz.prog 75 #[.pointer (some ⟨p, 0, none⟩), .int .i64 a] w1 fun e w' => e = .returned (.int .i64 1) ∧ Fr 0 0 o o w0 w' := by
  obtain ⟨S, E, M, hw, y, hy⟩ := A
  exact (rtell_no a y w1 F.fresh (E.keep F (.inr (Nat.zero_le _))) hy hw).mono fun e w' hh => ⟨hh.1, F.trans hh.2⟩
theorem tk_watch {a : Int} (w0 w1 : World) (F : Fr 0 0 o o w0 w1) (A : MkT1 o w0 p hs a false) :
    Calls Tryz.prog 76 #[.pointer (some ⟨p, 0, none⟩), .int .i64 a] w1 fun e w' => ∃ o', e = .returned (.int .i64 0) ∧ Fr 1 30 o o' w0 w' ∧ MkT1 o' w' p hs a true := by
  obtain ⟨S, E, M, hw, y, hy⟩ := A
  refine (rwatch a y w1 F.fresh (E.keep F (.inr (Nat.zero_le _))) hy).mono fun e w' hh => ?_
  obtain ⟨h1, o', F', E'⟩ := hh
  exact ⟨o', h1, (F.none 1 30).trans F', _, E', M.watch hy, if_pos rfl, y, hy⟩
theorem tk_watched {a : Int} (w0 w1 : World) (F : Fr 0 0 o o w0 w1) (A : MkT1 o w0 p hs a true) :
    Calls Tryz.prog 77 #[.pointer (some ⟨p, 0, none⟩), .int .i64 a] w1 fun e w' => e = .returned (.bool true) ∧ Fr 0 0 o o w0 w' := by
  obtain ⟨S, E, M, hw, y, hy⟩ := A
  exact (rwatched a w1 (E.keep F (.inr (Nat.zero_le _)))).mono fun e w' hh => ⟨by rw [hh.1, hw], by rw [← hh.2]; exact F⟩
theorem tl_watched {a : Int} {b : Bool} (w0 w1 : World) (F : Fr 0 0 o o w0 w1) (A : TlT1 o w0 p hs wl a b) :
    Calls Tryz.prog 77 #[.pointer (some ⟨p, 0, none⟩), .int .i64 a] w1 fun e w' => e = .returned (.bool b) ∧ Fr 0 0 o o w0 w' := by
  obtain ⟨S, E, M, hw, y, hy⟩ := A
  exact (rwatched a w1 (E.keep F (.inr (Nat.zero_le _)))).mono fun e w' hh => ⟨by rw [hh.1, hw], by rw [← hh.2]; exact F⟩
theorem tl_no {a : Int} (w0 w1 : World) (F : Fr 0 0 o o w0 w1) (A : TlT1 o w0 p hs wl a false) :
    Calls Tryz.prog 75 #[.pointer (some ⟨p, 0, none⟩), .int .i64 a] w1 fun e w' => e = .returned (.int .i64 1) ∧ Fr 0 0 o o w0 w' := by
  obtain ⟨S, E, M, hw, y, hy⟩ := A
  exact (rtell_no a y w1 F.fresh (E.keep F (.inr (Nat.zero_le _))) hy hw).mono fun e w' hh => ⟨hh.1, F.trans hh.2⟩
theorem tl_yes {a : Int} (w0 w1 : World) (F : Fr 0 0 o o w0 w1) (A : TlT1 o w0 p hs wl a true) (hl : wl.length ≤ 60) :
    Calls Tryz.prog 75 #[.pointer (some ⟨p, 0, none⟩), .int .i64 a] w1 fun e w' => ∃ o', e = .returned (.int .i64 0) ∧ Fr 1 30 o o' w0 w' ∧ TlT1 o' w' p hs (wl ++ [a]) a false := by
  obtain ⟨S, E, M, hw, y, hy⟩ := A
  refine (rtell a y w1 F.fresh (E.keep F (.inr (Nat.zero_le _))) hy hw (by rw [M.pend]; omega)).mono fun e w' hh => ?_
  obtain ⟨h1, o', F', E'⟩ := hh
  exact ⟨o', h1, (F.none 1 30).trans F', _, E', M.tell a, if_pos rfl, y, hy⟩
theorem tl_pending (w0 w1 : World) (F : Fr 0 0 o o w0 w1) (A : TlT o w0 p hs wl) (hl : wl.length ≤ 60) :
    Calls Tryz.prog 79 #[.pointer (some ⟨p, 0, none⟩)] w1 fun e w' => ∃ A cap, e = .returned (.slice A wl.length cap) ∧ Fr 0 0 o o w0 w' ∧ RdS w' w'.heap.size .i64 A wl.length wl := by
  obtain ⟨S, E, M⟩ := A
  refine (rpending w1 F.fresh (E.keep F (.inr (Nat.zero_le _))) (by rw [M.pend]; omega)).mono fun e w' hh => ?_
  obtain ⟨v, h1, h2, h3⟩ := hh
  rw [M.pend] at h3
  obtain ⟨A, cap, hv, hR⟩ := h3.row.rd
  exact ⟨A, cap, by rw [h1, hv], F.trans h2, hR⟩
theorem tl_take {a : Int} (w0 w1 : World) (F : Fr 0 0 o o w0 w1) (A : TlT o w0 p hs (a :: wl)) (hl : wl.length ≤ 60) :
    Calls Tryz.prog 80 #[.pointer (some ⟨p, 0, none⟩)] w1 fun e w' => ∃ o', e = .returned (.tuple #[.int .i64 a, .bool true]) ∧ Fr 1 30 o o' w0 w' ∧ TlT o' w' p hs wl := by
  obtain ⟨S, E, M⟩ := A
  refine (rtake w1 F.fresh (E.keep F (.inr (Nat.zero_le _))) M.pend (by omega)).mono fun e w' hh => ?_
  obtain ⟨h1, o', F', E'⟩ := hh
  exact ⟨o', h1, (F.none 1 30).trans F', _, E', M.obs, rfl⟩
theorem tl_take_no (w0 w1 : World) (F : Fr 0 0 o o w0 w1) (A : TlT o w0 p hs []) :
    Calls Tryz.prog 80 #[.pointer (some ⟨p, 0, none⟩)] w1 fun e w' => e = .returned (.tuple #[.int .i64 0, .bool false]) ∧ Fr 0 0 o o w0 w' := by
  obtain ⟨S, E, M⟩ := A
  exact (rtake_no w1 F.fresh (E.keep F (.inr (Nat.zero_le _))) M.pend).mono fun e w' hh => ⟨hh.1, by rw [← hh.2]; exact F⟩
theorem EngRep.none5 {w : World} {r : Nat} {S : EngS} (E : EngRep o w r p S) : S.ob 5 = none := by
  obtain ⟨ps, pt, pz, pp, bw, bk, v, K, E, A⟩ := E
  cases hx : S.ob 5 with
  | none => rfl
  | some x =>
    obtain ⟨y, hy, _⟩ := A.of_some hx
    have := (E.sp.hrange hy).1
    omega
theorem tl_tell5 (w0 w1 : World) (F : Fr 0 0 o o w0 w1) (A : TlT o w0 p hs wl) :
    Calls Tryz.prog 75 #[.pointer (some ⟨p, 0, none⟩), .int .i64 5] w1 fun e w' => e = .returned (.int .i64 3) ∧ Fr 0 0 o o w0 w' := by
  obtain ⟨S, E, M⟩ := A
  exact (rtell_none 5 w1 F.fresh (E.keep F (.inr (Nat.zero_le _))) E.none5).mono fun e w' hh => ⟨hh.1, F.trans hh.2⟩
theorem tl_watch5 (w0 w1 : World) (F : Fr 0 0 o o w0 w1) (A : TlT o w0 p hs wl) :
    Calls Tryz.prog 76 #[.pointer (some ⟨p, 0, none⟩), .int .i64 5] w1 fun e w' => e = .returned (.int .i64 3) ∧ Fr 0 0 o o w0 w' := by
  obtain ⟨S, E, M⟩ := A
  exact (rwatch_no 5 w1 F.fresh (E.keep F (.inr (Nat.zero_le _))) E.none5).mono fun e w' hh => ⟨hh.1, F.trans hh.2⟩
end
theorem MkT.keep {lo hi : Nat} {o o' : Own} {w w' : World} {p : Nat} {hs : List Int} (h : MkT o w p hs) (k : Fr lo hi o o' w w') (hr : 30 ≤ lo ∨ hi ≤ 1) : MkT o' w' p hs :=
  let ⟨S, E, M⟩ := h; ⟨S, E.keep k (by omega), M⟩
theorem MkT1.keep {lo hi : Nat} {o o' : Own} {w w' : World} {p : Nat} {hs : List Int} {a : Int} {b : Bool} (h : MkT1 o w p hs a b) (k : Fr lo hi o o' w w') (hr : 30 ≤ lo ∨ hi ≤ 1) : MkT1 o' w' p hs a b :=
  let ⟨S, E, M⟩ := h; ⟨S, E.keep k (by omega), M⟩
theorem MkT1.mk {o : Own} {w : World} {p : Nat} {hs : List Int} {a : Int} {b : Bool} (h : MkT1 o w p hs a b) : MkT o w p hs := let ⟨S, E, M, _⟩ := h; ⟨S, E, M⟩
theorem TlT.keep {lo hi : Nat} {o o' : Own} {w w' : World} {p : Nat} {hs wl : List Int} (h : TlT o w p hs wl) (k : Fr lo hi o o' w w') (hr : 30 ≤ lo ∨ hi ≤ 1) : TlT o' w' p hs wl :=
  let ⟨S, E, M⟩ := h; ⟨S, E.keep k (by omega), M⟩
theorem TlT1.tl {o : Own} {w : World} {p : Nat} {hs wl : List Int} {a : Int} {b : Bool} (h : TlT1 o w p hs wl a b) : TlT o w p hs wl := let ⟨S, E, M, _⟩ := h; ⟨S, E, M⟩
theorem TlT.one {o : Own} {w : World} {p : Nat} {hs wl : List Int} (h : TlT o w p hs wl) {j : Nat} (hj : j < hs.length) : ∃ b, TlT1 o w p hs wl (hs.getD j 0) b := let ⟨S, E, M⟩ := h; ⟨_, S, E, M, rfl, M.obs j hj⟩
end Go.Proofs.YtlpklloagaccoaaGreat
namespace Go.Proofs.YtlpklloagaccoaaGreat
open Go.RowKit
set_option linter.unusedVariables false

theorem LRow.take {o : Own} {w : World} {r g n cap : Nat} {xs : List Int} (h : LRow o w r (.slice (some ⟨g, 0, none⟩) n cap) xs) {m : Nat} (hm : m ≤ xs.length) : LRow o w r (.slice (some ⟨g, 0, none⟩) m cap) (xs.take m) := by
  obtain ⟨R, _⟩ := Row.rowB h.1
  have R2 := (R.take hm).row
  rw [List.length_take, Nat.min_eq_left hm] at R2
  exact ⟨R2, fun g' hg' => by cases hg'; exact h.2 g rfl⟩
theorem sameInts_n {o : Own} {xs : List Int} {a b : Option Addr} {ca cb B B' m : Nat} (hm : xs.length = m) (w : World) (ho : Owned o w) (Ra : RdS w B .i64 a m xs) (Rb : RdS w B' .i64 b m xs) (hB : B ≤ w.heap.size) (hB' : B' ≤ w.heap.size) (hl : m < 1099511627776) :
    Calls Tryz.prog 78 #[.slice a m ca, .slice b m cb] w fun e w' => e = .returned (.bool true) ∧ Fr 0 0 o o w w' := by
  subst hm
  exact sameInts_yes w ho Ra Rb hB hB' hl
theorem LRow.rdn {o : Own} {w : World} {r n cap : Nat} {A : Option Addr} {xs : List Int} (h : LRow o w r (.slice A n cap) xs) : RdS w w.heap.size .i64 A n xs := by
  obtain ⟨A2, c2, e, R⟩ := h.rd
  cases e
  exact R
theorem LRow.capn {o : Own} {w : World} {r n cap : Nat} {A : Option Addr} {xs : List Int} (h : LRow o w r (.slice A n cap) xs) : n ≤ cap := by
  rcases h.1.form with ⟨e, _⟩ | ⟨g, c, e, R⟩
  · cases e; exact Nat.le_refl _
  · cases e
    obtain ⟨cur, _, _, h1, _⟩ := R
    exact h1
/-- A new row is given to an owner. -/
theorem RowNew.own {o : Own} {w w' : World} {v : Value} {xs : List Int} (F : Fr 0 0 o o w w') (R : RowNew w o w' v xs) (r : Nat) : ∃ o', Fr r (r + 1) o o' w w' ∧ LRow o' w' r v xs := by
  have F0 : Fr r (r + 1) o o w w' := F.none r (r + 1)
  rcases R.row.1.form with ⟨rfl, rfl⟩ | ⟨g, cap, rfl, RB⟩
  · exact ⟨o, F0, LRow.nil _ _ _⟩
  · have hg := R.new g rfl
    have hl := RB.lt
    refine ⟨o.give g r, ⟨F.os, F.tape, F.output, F.size, F0.block, fun b hb => by simp [Own.give, show b ≠ g by omega], fun b hb => ?_⟩, R.row.1, fun g' hg' => ?_⟩
    · simp only [Own.give]
      rw [if_neg (by omega)]; exact F.fresh b hb
    · cases hg'; simp [Own.give]
end Go.Proofs.YtlpklloagaccoaaGreat
