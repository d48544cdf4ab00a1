/- Boxes in the three cells of an object, moved about; how often each is counted. Plain Lean. Condition: ten boxes at most. -/
import Derived.Test.YtlpklloagaccoaaGreatLaw12
import Derived.Test.YtlpklloagaccoaaGreatSl
namespace Go.Proofs.YtlpklloagaccoaaGreat
open Go.RowKit
set_option linter.unusedVariables false

/-- What lies in a cell: 1 .. n: a box; else nothing. -/
def cvM (hs : List Int) (a : Nat) : Nat × Int := if 1 ≤ a ∧ a ≤ hs.length then (3, hs.getD (a - 1) 0) else (0, 0)
def indM (a j : Nat) : Int := if a = j + 1 then 1 else 0
def cntM (g : Nat → Nat) (j : Nat) : Int := indM (g 0) j + indM (g 1) j + indM (g 2) j
/-- The boxes as they are made. -/
structure MkM (S : EngS) (b : Int) (hs : List Int) : Prop where
  lim : S.lim = 1000
  weak : ∀ k, S.weak k = false
  st : ∀ k, S.st k = false
  tot0 : ∀ k, S.tot k = 0
  obj : S.ob b = some (newOb 7 3 0)
  obs : ∀ j, j < hs.length → ∃ y, S.ob (hs.getD j 0) = some y
  nd : ∀ i j, i < hs.length → j < hs.length → hs.getD i 0 = hs.getD j 0 → i = j
  small : ∀ j, j < hs.length → in64 (hs.getD j 0)
  ok : S.L.ok = true
  n : S.L.n = 20
  t : S.L.t ≤ hs.length + 2
structure MvM (S : EngS) (b : Int) (hs : List Int) (g : Nat → Nat) : Prop where
  lim : S.lim = 1000
  weak : ∀ k, S.weak k = false
  st : ∀ k, S.st k = false
  obj : ∃ x, S.ob b = some x ∧ x.cells = 3 ∧ ∀ c, c < 3 → x.val c = cvM hs (g c)
  obs : ∀ j, j < hs.length → ∃ y, S.ob (hs.getD j 0) = some y
  nd : ∀ i j, i < hs.length → j < hs.length → hs.getD i 0 = hs.getD j 0 → i = j
  small : ∀ j, j < hs.length → in64 (hs.getD j 0)
  tot : ∀ j, j < hs.length → S.tot (hs.getD j 0) = cntM g j
theorem getD_append_lt {l : List Int} {x : Int} {j : Nat} (h : j < l.length) : (l ++ [x]).getD j 0 = l.getD j 0 := by simp [List.getD, List.getElem?_append_left h]
theorem getD_append_at {l : List Int} {x : Int} : (l ++ [x]).getD l.length 0 = x := by simp [List.getD]
theorem MkM.first {L' : Al} {a : Nat} (hok : L'.ok = true) (hn : L'.n = 20) (ht : L'.t ≤ 2) : MkM (makeA (newEng 20 1000) L' a 7 3 0) (a : Int) [] :=
  ⟨rfl, fun _ => rfl, fun _ => rfl, fun _ => rfl, if_pos rfl, fun j h => absurd h (Nat.not_lt_zero _), fun i j h => absurd h (Nat.not_lt_zero _), fun j h => absurd h (Nat.not_lt_zero _), hok, hn, ht⟩
theorem MkM.more {S : EngS} {b : Int} {hs : List Int} (M : MkM S b hs) {L' : Al} {a : Nat} (hno : S.ob (a : Int) = none) (ha : a < 262144) (hok : L'.ok = true) (hn : L'.n = 20) (ht : L'.t ≤ hs.length + 3) : MkM (makeA S L' a 5 1 0) b (hs ++ [(a : Int)]) := by
  have hne : ∀ m y, S.ob m = some y → m ≠ (a : Int) := fun m y h e => by rw [e, hno] at h; cases h
  have hob : ∀ m y, S.ob m = some y → (makeA S L' a 5 1 0).ob m = some y := fun m y h => by
    show updI S.ob (a : Int) _ m = _
    unfold updI
    rw [if_neg (hne m y h)]; exact h
  have hl : (hs ++ [(a : Int)]).length = hs.length + 1 := by simp
  refine ⟨M.lim, fun k => M.weak k, M.st, M.tot0, hob _ _ M.obj, fun j hj => ?_, fun i j hi hj e => ?_, fun j hj => ?_, hok, hn, by rw [hl]; exact ht⟩
  · by_cases h : j < hs.length
    · rw [getD_append_lt h]
      obtain ⟨y, hy⟩ := M.obs j h
      exact ⟨y, hob _ _ hy⟩
    · obtain rfl : j = hs.length := by omega
      rw [getD_append_at]
      exact ⟨_, if_pos rfl⟩
  · by_cases h : i < hs.length <;> by_cases h' : j < hs.length
    · rw [getD_append_lt h, getD_append_lt h'] at e; exact M.nd i j h h' e
    · obtain rfl : j = hs.length := by omega
      rw [getD_append_lt h, getD_append_at] at e
      obtain ⟨y, hy⟩ := M.obs i h
      exact absurd e (hne _ _ hy)
    · obtain rfl : i = hs.length := by omega
      rw [getD_append_lt h', getD_append_at] at e
      obtain ⟨y, hy⟩ := M.obs j h'
      exact absurd e.symm (hne _ _ hy)
    · omega
  · by_cases h : j < hs.length
    · rw [getD_append_lt h]; exact M.small j h
    · obtain rfl : j = hs.length := by omega
      rw [getD_append_at]; unfold in64; omega
theorem MkM.mv {S : EngS} {b : Int} {hs : List Int} (M : MkM S b hs) : MvM S b hs (fun _ => 0) := by
  refine ⟨M.lim, M.weak, M.st, ⟨_, M.obj, rfl, fun c hc => ?_⟩, M.obs, M.nd, M.small, fun j hj => ?_⟩
  · show _ = if 1 ≤ 0 ∧ 0 ≤ hs.length then _ else ((0 : Nat), (0 : Int))
    rw [if_neg (by omega)]
    rfl
  · rw [M.tot0]; show (0 : Int) = (if 0 = j + 1 then 1 else 0) + (if 0 = j + 1 then 1 else 0) + (if 0 = j + 1 then 1 else 0); rw [if_neg (by omega)]; rfl
theorem cvM_some {hs : List Int} {a : Nat} (h : (cvM hs a).1 = 3) : 1 ≤ a ∧ a ≤ hs.length ∧ (cvM hs a).2 = hs.getD (a - 1) 0 := by
  unfold cvM at h ⊢
  by_cases e : 1 ≤ a ∧ a ≤ hs.length
  · rw [if_pos e]; exact ⟨e.1, e.2, rfl⟩
  · rw [if_neg e] at h; cases h
theorem MvM.le3 {S : EngS} {b : Int} {hs : List Int} {g : Nat → Nat} (M : MvM S b hs g) {j : Nat} (hj : j < hs.length) : 0 ≤ S.tot (hs.getD j 0) ∧ S.tot (hs.getD j 0) ≤ 3 := by
  rw [M.tot j hj]; unfold cntM indM
  split <;> split <;> split <;> omega
/-- Where a cell's box stands in the list, as a count of one. -/
theorem cvM_ind {hs : List Int} (nd : ∀ i j, i < hs.length → j < hs.length → hs.getD i 0 = hs.getD j 0 → i = j) (a j : Nat) (hj : j < hs.length) : (if (cvM hs a).1 = 3 ∧ (cvM hs a).2 = hs.getD j 0 then (1 : Int) else 0) = indM a j := by
  unfold indM
  by_cases e : a = j + 1
  · subst e
    have : cvM hs (j + 1) = (3, hs.getD j 0) := by unfold cvM; rw [if_pos (by omega)]; rfl
    rw [this, if_pos rfl]
    exact if_pos ⟨rfl, rfl⟩
  · rw [if_neg e, if_neg]
    rintro ⟨h1, h2⟩
    obtain ⟨k1, k2, k3⟩ := cvM_some h1
    rw [k3] at h2
    have := nd _ _ (by omega) hj h2
    omega
def updM (g : Nat → Nat) (c v : Nat) : Nat → Nat := fun j => if j = c then v else g j
theorem cntM_upd {g : Nat → Nat} {c v j : Nat} (hc : c < 3) : cntM (updM g c v) j = cntM g j + indM v j - indM (g c) j := by
  have hcs : c = 0 ∨ c = 1 ∨ c = 2 := by omega
  unfold cntM updM
  rcases hcs with rfl | rfl | rfl
  · rw [if_pos rfl, if_neg (by omega), if_neg (by omega)]; omega
  · rw [if_neg (by omega), if_pos rfl, if_neg (by omega)]; omega
  · rw [if_neg (by omega), if_neg (by omega), if_pos rfl]; omega
theorem setA_limM (S : EngS) (h : Int) (x : Ob) (k q : Nat) (n : Int) : (setA S h x k q n).lim = S.lim := by
  unfold setA
  split
  · rfl
  · split
    · split <;> rfl
    · split <;> rfl
theorem MvM.set {S : EngS} {b : Int} {hs : List Int} {g : Nat → Nat} (M : MvM S b hs g) {c : Nat} (hc : c < 3) (v : Nat) {x : Ob} (hx : S.ob b = some x) (h3 : x.cells = 3) (hv : ∀ c, c < 3 → x.val c = cvM hs (g c)) :
    MvM (setA S b x c (cvM hs v).1 (cvM hs v).2) b hs (updM g c v) := by
  have hold : (x.val c).1 = 3 → S.st (x.val c).2 = false ∧ 1 ≤ S.tot (x.val c).2 := by
    intro h
    refine ⟨M.st _, ?_⟩
    rw [hv c hc] at h ⊢
    obtain ⟨k1, k2, k3⟩ := cvM_some h
    rw [k3, M.tot _ (by omega)]
    unfold cntM
    have h1 : indM (g c) (g c - 1) = 1 := by unfold indM; exact if_pos (by omega)
    have hp : ∀ a j, 0 ≤ indM a j := fun a j => by unfold indM; split <;> omega
    have hcs : c = 0 ∨ c = 1 ∨ c = 2 := by omega
    have p0 := hp (g 0) (g c - 1)
    have p1 := hp (g 1) (g c - 1)
    have p2 := hp (g 2) (g c - 1)
    rcases hcs with rfl | rfl | rfl <;> omega
  have hnew : (cvM hs v).1 = 3 → S.st (cvM hs v).2 = false ∧ S.tot (cvM hs v).2 + 1 < S.lim := by
    intro h
    obtain ⟨k1, k2, k3⟩ := cvM_some h
    have := M.le3 (j := v - 1) (by omega)
    rw [k3]
    exact ⟨M.st _, by rw [M.lim]; omega⟩
  have T := setA_tot (h := b) (i := c) (M.weak b) hold hnew
  have hob := setA_ob S b x c (cvM hs v).1 (cvM hs v).2
  refine ⟨(setA_limM ..).trans M.lim, fun k => by rw [setA_weak]; exact M.weak k, fun k => (T k).2.trans (M.st k), ⟨setVal x c ((cvM hs v).1, (cvM hs v).2), by rw [hob]; exact if_pos rfl, h3, fun c' hc' => ?_⟩, fun j hj => ?_, M.nd, M.small, fun j hj => ?_⟩
  · show (if c' = c then ((cvM hs v).1, (cvM hs v).2) else x.val c') = cvM hs (if c' = c then v else g c')
    by_cases e : c' = c
    · rw [if_pos e, if_pos e]
    · rw [if_neg e, if_neg e]; exact hv c' hc'
  · rw [hob]
    unfold updI
    split
    · exact ⟨_, rfl⟩
    · exact M.obs j hj
  · rw [(T _).1, M.tot j hj, cntM_upd hc, cvM_ind M.nd v j hj, hv c hc, cvM_ind M.nd (g c) j hj]
theorem low_mod (x : Int) (d : Nat) (hd : 0 < d) : ∃ c : Nat, (bits .and .i64 x 1023).tmod (d : Int) = (c : Int) ∧ c < d := by
  obtain ⟨k, hk, _⟩ := and_low x 1023 (by omega)
  have hk' : bits .and .i64 x 1023 = (k : Int) := hk
  exact ⟨k % d, by rw [hk']; exact (Int.ofNat_tmod k d).symm, Nat.mod_lt _ hd⟩
theorem LRow.cell {o : Own} {w : World} {r g n cap j : Nat} {xs : List Int} (h : LRow o w r (.slice (some ⟨g, 0, none⟩) n cap) xs) (hj : j < xs.length) : w.cell? ⟨g, j, none⟩ = some (.int .i64 (xs.getD j 0)) := by
  rcases h.1.form with ⟨h1, _⟩ | ⟨g', cap', h1, R⟩
  · cases h1
  · simp only [Value.slice.injEq, Option.some.injEq, Addr.mk.injEq] at h1
    obtain ⟨⟨rfl, _⟩, _, _⟩ := h1
    exact R.cell hj
end Go.Proofs.YtlpklloagaccoaaGreat
