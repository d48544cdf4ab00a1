/- The walk of CountMoves. No condition but on how the slice lies. -/
import Derived.Test.YtlpklloagaccoaaGreatLMoves
import Derived.Outline
namespace Go.Proofs.YtlpklloagaccoaaGreat
open Go.RowKit
set_option linter.unusedVariables false

set_option maxRecDepth 100000 in
theorem moves_out (n : Int) (a1 : Option Addr) (m c1 : Nat) (w : World) (h : n < 1 ∨ 10 < n ∨ 100 < m) (h2 : m ≤ maxLen) :
    Calls Tryz.prog 12 #[.int .i64 n, .slice a1 m c1] w fun e w' => e = .returned (.bool true) ∧ Below w.heap.size w w' := by
  have HA := Lib.hid (alive12 w)
  unfold maxLen at h2
  have hn : n < 1 ∨ (¬ n < 1 ∧ 10 < n) ∨ (¬ n < 1 ∧ ¬ 10 < n ∧ 100 < (m : Int)) := by omega
  clear h
  rcases hn with h0 | ⟨h0, h3⟩ | ⟨h0, h3, h4⟩
  all_goals
    go_enter Tryz.func12, Tryz.ntmps12
    go_wp2_with fail
    go_at_call 65
    refine HA.out.mono ?_
    rintro e w1 ⟨rfl, hb⟩
    have HB := Lib.hid hb
    clear hb
    go_wp2_with fail
    go_ret
    exact ⟨rfl, HB.out⟩
/-- The boxes being made. -/
def MkAt (o : Own) (w : World) (p : Nat) (b : Int) (hs : List Int) : Prop := ∃ S, EngRep o w 1 p S ∧ MkM S b hs
/-- The boxes being moved. -/
def MvAt (o : Own) (w : World) (p : Nat) (b : Int) (hs : List Int) (g : Nat → Nat) : Prop := ∃ S, EngRep o w 1 p S ∧ MvM S b hs g
theorem MkAt.keep {lo hi : Nat} {o o' : Own} {w w' : World} {p : Nat} {b : Int} {hs : List Int} (h : MkAt o w p b hs) (k : Fr lo hi o o' w w') (hr : 30 ≤ lo ∨ hi ≤ 1) : MkAt o' w' p b hs :=
  let ⟨S, E, M⟩ := h; ⟨S, E.keep k (by omega), M⟩
theorem MvAt.keep {lo hi : Nat} {o o' : Own} {w w' : World} {p : Nat} {b : Int} {hs : List Int} {g : Nat → Nat} (h : MvAt o w p b hs g) (k : Fr lo hi o o' w w') (hr : 30 ≤ lo ∨ hi ≤ 1) : MvAt o' w' p b hs g :=
  let ⟨S, E, M⟩ := h; ⟨S, E.keep k (by omega), M⟩
theorem mk_first {o : Own} {p : Nat} (w0 w1 : World) (F : Fr 0 0 o o w0 w1) (E : EngRep o w0 1 p (newEng 20 1000)) :
    Calls Tryz.prog 66 #[.pointer (some ⟨p, 0, none⟩), .int .i64 7, .int .i64 3, .int .i64 0] w1 fun e w' => ∃ b o', e = .returned (.tuple #[.int .i64 b, .int .i64 0]) ∧ Fr 1 30 o o' w0 w' ∧ MkAt o' w' p b [] := by
  obtain ⟨L', a, hT, ht2, _⟩ := tookL_room (newEng 20 1000).L (wordsN 3 0) (by show 1 + (6 / 64 + 1) ≤ 20; omega)
  refine (rmake 7 3 0 7 3 0 rfl rfl rfl L' a w1 F.fresh (E.keep F (.inr (Nat.zero_le _))) rfl (by omega) (by omega) (by omega) hT).mono fun e w' hh => ?_
  obtain ⟨⟨h1, o', F', E'⟩, h2, _, h4, h5, h6⟩ := hh
  exact ⟨_, o', h1, (F.none 1 30).trans F', _, E', MkM.first h5 h6 ht2⟩
theorem mk_more {o : Own} {p : Nat} {b : Int} {hs : List Int} (w0 w1 : World) (F : Fr 0 0 o o w0 w1) (A : MkAt o w0 p b hs) (hl : hs.length < 10) :
    Calls Tryz.prog 66 #[.pointer (some ⟨p, 0, none⟩), .int .i64 5, .int .i64 1, .int .i64 0] w1 fun e w' => ∃ (a : Int) (o' : Own), e = .returned (.tuple #[.int .i64 a, .int .i64 0]) ∧ Fr 1 30 o o' w0 w' ∧ MkAt o' w' p b (hs ++ [a]) := by
  obtain ⟨S, E, M⟩ := A
  have hn := M.n
  have ht := M.t
  obtain ⟨L', a, hT, ht2, _⟩ := tookL_room S.L (wordsN 1 0) (by show S.L.t + (4 / 64 + 1) ≤ S.L.n; omega)
  refine (rmake 5 1 0 5 1 0 rfl rfl rfl L' a w1 F.fresh (E.keep F (.inr (Nat.zero_le _))) M.ok (by omega) (by omega) (by omega) hT).mono fun e w' hh => ?_
  obtain ⟨⟨h1, o', F', E'⟩, h2, _, h4, h5, h6⟩ := hh
  have ht3 : L'.t ≤ S.L.t + (4 / 64 + 1) := ht2
  exact ⟨_, o', h1, (F.none 1 30).trans F', _, E', M.more h2 h4 h5 (by omega) (by omega)⟩
theorem mv_set {o : Own} {p : Nat} {b : Int} {hs : List Int} {g : Nat → Nat} (c v : Nat) (q x : Int) (w0 w1 : World) (F : Fr 0 0 o o w0 w1) (A : MvAt o w0 p b hs g) (hc : c < 3) (hq : q = ((cvM hs v).1 : Nat)) (hx : x = (cvM hs v).2) :
    Calls Tryz.prog 68 #[.pointer (some ⟨p, 0, none⟩), .int .i64 b, .int .i64 (c : Nat), .agg #[.int .i64 q, .int .i64 x]] w1 fun e w' => ∃ o', e = .returned (.int .i64 0) ∧ Fr 1 30 o o' w0 w' ∧ MvAt o' w' p b hs (updM g c v) := by
  subst hq hx
  obtain ⟨S, E, M⟩ := A
  obtain ⟨x, hx, h3, hv⟩ := M.obj
  have hle : (cvM hs v).1 ≤ 3 := by unfold cvM; split <;> omega
  have hin : in64 (cvM hs v).2 := by
    unfold cvM
    split
    · rename_i h; exact M.small _ (by omega)
    · unfold in64; omega
  have hob : ∀ a, (cvM hs a).1 = 3 → ∃ y, S.ob (cvM hs a).2 = some y := fun a h => by
    obtain ⟨k1, k2, k3⟩ := cvM_some h
    rw [k3]; exact M.obs _ (by omega)
  refine (rset b (c : Nat) x c (cvM hs v).1 (cvM hs v).2 w1 (by omega) F.fresh (E.keep F (.inr (Nat.zero_le _))) hx rfl (by omega) hle hin (hob v) (fun _ h => by rw [hv c hc] at h ⊢; exact hob _ h)).mono fun e w' hh => ?_
  obtain ⟨h1, o', F', E'⟩ := hh
  exact ⟨o', h1, (F.none 1 30).trans F', _, E', M.set hc v hx h3 hv⟩
theorem mv_count {o : Own} {p : Nat} {b : Int} {hs : List Int} {g : Nat → Nat} (j : Nat) (x : Int) (w0 w1 : World) (F : Fr 0 0 o o w0 w1) (A : MvAt o w0 p b hs g) (hj : j < hs.length) (hx : x = hs.getD j 0) :
    Calls Tryz.prog 39 #[.pointer (some ⟨p, 0, none⟩), .int .i64 x] w1 fun e w' => e = .returned (.tuple #[.int .i64 (cntM g j), .bool false]) ∧ Fr 0 0 o o w0 w' := by
  subst hx
  obtain ⟨S, E, M⟩ := A
  obtain ⟨y, hy⟩ := M.obs j hj
  exact (rcount _ y w1 F.fresh (E.keep F (.inr (Nat.zero_le _))) hy).mono fun e w' hh => ⟨by rw [hh.1, M.tot j hj, M.st], F.below hh.2⟩
theorem LRow.cell {o : Own} {w : World} {r g n cap j : Nat} {xs : List Int} (h : LRow o w r (.slice (some ⟨g, 0, none⟩) n cap) xs) (hj : j < xs.length) : w.cell? ⟨g, j, none⟩ = some (.int .i64 (xs.getD j 0)) := by
  rcases h.1.form with ⟨h1, _⟩ | ⟨g', cap', h1, R⟩
  · cases h1
  · simp only [Value.slice.injEq, Option.some.injEq, Addr.mk.injEq] at h1
    obtain ⟨⟨rfl, _⟩, _, _⟩ := h1
    exact R.cell hj
def arr3 (g : Nat → Nat) : Array Value := #[.int .i64 (g 0 : Nat), .int .i64 (g 1 : Nat), .int .i64 (g 2 : Nat)]
theorem arr3_at (g : Nat → Nat) {c : Nat} (hc : c < 3) : (arr3 g)[c]? = some (.int .i64 (g c : Nat)) := by
  have hcs : c = 0 ∨ c = 1 ∨ c = 2 := by omega
  rcases hcs with rfl | rfl | rfl <;> rfl
theorem arr3_set (g : Nat → Nat) {c : Nat} (hc : c < 3) (v : Nat) : (arr3 g).setIfInBounds c (.int .i64 (v : Nat)) = arr3 (updM g c v) := by
  have hcs : c = 0 ∨ c = 1 ∨ c = 2 := by omega
  rcases hcs with rfl | rfl | rfl <;> rfl
/-- How many of the first z places bear the number. -/
def cntZ (g : Nat → Nat) (j : Nat) : Nat → Int
  | 0 => 0
  | z + 1 => cntZ g j z + indM (g z) j
theorem cntZ_3 (g : Nat → Nat) (j : Nat) : cntZ g j 3 = cntM g j := by
  show ((0 : Int) + indM (g 0) j) + indM (g 1) j + indM (g 2) j = indM (g 0) j + indM (g 1) j + indM (g 2) j
  omega
theorem cntZ_small (g : Nat → Nat) (j : Nat) : ∀ z, 0 ≤ cntZ g j z ∧ cntZ g j z ≤ z
  | 0 => ⟨Int.le_refl _, Int.le_refl _⟩
  | z + 1 => by
    have := cntZ_small g j z
    show 0 ≤ cntZ g j z + indM (g z) j ∧ cntZ g j z + indM (g z) j ≤ ((z + 1 : Nat) : Int)
    unfold indM
    split <;> omega
/-- The array of places, a block of the walk's own. -/
def Arr (o : Own) (w : World) (B : Nat) (g : Nat → Nat) : Prop := Blk o w 41 B (.cells (arr3 g) 79 (0, 0))
theorem Arr.keep {lo hi : Nat} {o o' : Own} {w w' : World} {B : Nat} {g : Nat → Nat} (h : Arr o w B g) (k : Fr lo hi o o' w w') (hr : 41 < lo ∨ hi ≤ 41) : Arr o' w' B g := Blk.keep h k hr
theorem Arr.cell {o : Own} {w : World} {B : Nat} {g : Nat → Nat} (h : Arr o w B g) {c : Nat} (hc : c < 3) : w.cell? ⟨B, c, none⟩ = some (.int .i64 (g c : Nat)) := (Blk.cell h c).trans (arr3_at g hc)
theorem Arr.free {o : Own} {w : World} {B : Nat} {g : Nat → Nat} (h : Arr o w B g) (c : Nat) : w.frozen? ⟨B, c, none⟩ = false := Blk.free h c
theorem Arr.set {o : Own} {w : World} {B : Nat} {g : Nat → Nat} (h : Arr o w B g) (ho : Owned o w) {c : Nat} (hc : c < 3) (v : Nat) (x : Int) (hx : x = (v : Nat)) : Fr 41 42 o o w (w.setCell ⟨B, c, none⟩ (.int .i64 x)) ∧ Arr o (w.setCell ⟨B, c, none⟩ (.int .i64 x)) B (updM g c v) := by
  subst hx
  refine ⟨(Fr.refl ho).setCell _ _ (.inl ⟨by simp only [h.1]; omega, by simp only [h.1]; omega⟩), ?_⟩
  have := Blk.set h c (.int .i64 (v : Nat))
  rw [arr3_set g hc v] at this
  exact this
theorem low_mod (x : Int) (d : Nat) (hd : 0 < d) : ∃ c : Nat, (bits .and .i64 x 1023).tmod (d : Int) = (c : Int) ∧ c < d := by
  obtain ⟨k, hk, _⟩ := and_low x 1023 (by omega)
  have hk' : bits .and .i64 x 1023 = (k : Int) := hk
  exact ⟨k % d, by rw [hk']; exact (Int.ofNat_tmod k d).symm, Nat.mod_lt _ hd⟩
set_option maxRecDepth 100000 in
set_option maxHeartbeats 2000000 in
theorem moves_in (n : Nat) (a1 : Option Addr) (m c1 : Nat) (q : List Int) (w : World) (hn1 : 1 ≤ n) (hn : n ≤ 10) (hm : m ≤ 100) (R1 : RdS w w.heap.size .i64 a1 m q) :
    Calls Tryz.prog 12 #[.int .i64 (n : Nat), .slice a1 m c1] w fun e w' => e = .returned (.bool true) ∧ Below w.heap.size w w' := by
  have HA := Lib.hid (alive12 w)
  have HN := Lib.hid (fun (o : Own) (w1 : World) (ho : Owned o w1) => show Calls Tryz.prog 27 #[.int .i64 20, .int .i64 0, .int .i64 1000] w1 (EngNew o w1 1 20 1000) from eng_new 1 20 1000 w1 ho (by omega) (by omega) (by omega) (by omega))
  have HR1 := Lib.hid R1
  have h0 : ¬ (n : Int) < 1 := by omega
  have h1 : ¬ 10 < (n : Int) := by omega
  have h2 : ¬ 100 < (m : Int) := by omega
  clear hn1 hn hm R1
  go_enter Tryz.func12, Tryz.ntmps12
  go_wp2_with fail
  go_at_call 65
  refine HA.out.mono ?_
  rintro e w1 ⟨rfl, hb⟩
  have HF1 := Lib.hid (LF.of_below hb)
  clear hb
  go_wp2_with fail
  go_at_call 27
  refine (HN.out _ _ HF1.out.fresh).mono ?_
  rintro e w2 ⟨p, o2, rfl, F2, E2⟩
  have HF2 := Lib.hid (HF1.out.fr F2 (by omega))
  have HE2 := Lib.hid E2
  clear F2 E2
  go_wp2_with fail
  go_at_call 66
  refine (mk_first w2 _ (by repeat (first | exact Fr.refl HF2.out.fresh | refine Fr.drew ?_ | refine Fr.alloc ?_ _)) HE2.out).mono ?_
  rintro e w3 ⟨b, o3, rfl, F3, A3⟩
  have HF3 := Lib.hid (HF2.out.fr F3 (by omega))
  have HA3 := Lib.hid A3
  clear F3 A3
  go_wp2_with fail
  go_loopw [9, 10] (fun vv iv wr => ∃ (i : Nat) (o' : Own) (hs : List Int), i ≤ n ∧ hs.length = i ∧ iv = .int .i64 i ∧ LF w o' wr ∧ MkAt o' wr p b hs ∧ LRow o' wr 40 vv hs) (fun _ iv _ => n - (intOf iv).toNat)
  case atStart => exact ⟨0, o3, [], by omega, rfl, rfl, HF3.out, HA3.out, LRow.nil _ _ 40⟩
  case round =>
    obtain ⟨i, oi, hs, hi, hl, rfl, Fi, Ai, Ri⟩ := hrel
    by_cases hin : i < n
    · have hin' : (i : Int) < (n : Int) := by omega
      have HFi := Lib.hid Fi
      have HRi := Lib.hid Ri
      have HL := Lib.hid hl
      have HM := Lib.hid (fun (w5 : World) (F : Fr 0 0 oi oi wr w5) => mk_more wr w5 F Ai (by have := h1; omega))
      clear Fi Ai Ri hl hi
      go_wp2_with fail
      go_at_call 66
      refine (HM.out _ (by repeat (first | exact Fr.refl HFi.out.fresh | refine Fr.drew ?_ | refine Fr.alloc ?_ _))).mono ?_
      rintro e w5 ⟨a, o5, rfl, F5, A5⟩
      have HF5 := Lib.hid (HFi.out.fr F5 (by omega))
      have HA5 := Lib.hid A5
      have HR5 := Lib.hid (HRi.out.keep F5 (.inr (by omega)))
      clear F5 A5
      go_wp2_with (first
        | (go_at_call 67; refine (num12 _ _).mono ?_; rintro e w' ⟨rfl, rfl⟩)
        | (at_builtin; refine wpList_append_row _ rfl _ _ _ rfl Tryz.underlying38 (own := o5) (by first | exact HF5.out.fresh | exact (HF5.out.alloc _).fresh) 40 rfl (HR5.out.keep (lo := 0) (hi := 0) ((Fr.refl HF5.out.fresh).alloc _) (.inr (by omega))) rfl (RdS.one _ .i64 _ a (by simp)) (by have := HL.out; have := h1; omega) ?_; intro v6 w6 o6 F6 R6; have HF6 := Lib.hid ((HF5.out.alloc _).fr F6 (by omega)); have HR6 := Lib.hid R6; have HA6 := Lib.hid ((HA5.out.keep ((Fr.refl (lo := 0) (hi := 0) HF5.out.fresh).alloc _) (.inr (by omega))).keep F6 (.inl (by omega))); clear F6 R6))
      exact ⟨⟨i + 1, o6, hs ++ [a], by omega, by rw [List.length_append, HL.out]; rfl, by go_num, HF6.out, HA6.out, HR6.out⟩, by simp [intOf]; omega⟩
    · have hin' : ¬ (i : Int) < (n : Int) := by omega
      obtain rfl : i = n := by omega
      obtain ⟨gm, capm, hvm, _, _, _⟩ := Ri.set Fi.fresh (i := 0) (by omega)
      subst hvm
      have HFi := Lib.hid Fi
      have HRi := Lib.hid Ri
      have HAi := Lib.hid (show MvAt oi wr p b hs (fun _ => 0) from let ⟨S, E, M⟩ := Ai; ⟨S, E, M.mv⟩)
      clear Fi Ai Ri hi hin
      rw [hl] at HRi ⊢
      have HL := Lib.hid hl
      clear hl
      go_wp2_with fail
      obtain ⟨wo, rfl⟩ : ∃ wo : World, wo = wr := ⟨_, rfl⟩
      have HB0 := Lib.hid (show Arr (oi.give wo.heap.size 41) (wo.alloc (.cells #[.int .i64 0, .int .i64 0, .int .i64 0] 79 (0, 0))) wo.heap.size (fun _ => 0) from Blk.new (o := oi) (w := wo) (.cells #[.int .i64 0, .int .i64 0, .int .i64 0] 79 (0, 0)) 41)
      have HFB := Lib.hid (show LF w (oi.give wo.heap.size 41) (wo.alloc (.cells #[.int .i64 0, .int .i64 0, .int .i64 0] 79 (0, 0))) from Fr.give HFi.out _ 41)
      have hFG : Fr 0 0 oi (oi.give wo.heap.size 41) wo (wo.alloc (.cells #[.int .i64 0, .int .i64 0, .int .i64 0] 79 (0, 0))) := Fr.give (Fr.refl HFi.out.fresh) _ 41
      have HAB := Lib.hid (HAi.out.keep hFG (.inr (by omega)))
      have HRB := Lib.hid (HRi.out.keep hFG (.inr (by omega)))
      generalize wo.heap.size = B at *
      clear hFG
      go_loopw [14] (fun iv wr => ∃ (j : Nat) (o' : Own) (g : Nat → Nat), j ≤ m ∧ iv = .int .i64 j ∧ LF w o' wr ∧ MvAt o' wr p b hs g ∧ LRow o' wr 40 (.slice (some ⟨gm, 0, none⟩) i capm) hs ∧ Arr o' wr B g) (fun iv _ => m - (intOf iv).toNat)
      case atStart => exact ⟨0, _, fun _ => 0, by omega, rfl, HFB.out, HAB.out, HRB.out, HB0.out⟩
      case round =>
        obtain ⟨j, oj, g, hj, rfl, Fj, Aj, Rj, Bj⟩ := hrel
        by_cases hjm : j < m
        · have hjm' : (j : Int) < (m : Int) := by omega
          obtain ⟨b1, f1, ha1, hb1, hc1⟩ := (HR1.out.lf Fj).at_ hjm
          have HFj := Lib.hid Fj
          have HAj := Lib.hid Aj
          have HRj := Lib.hid Rj
          have HBj := Lib.hid Bj
          subst ha1
          clear Fj Aj Rj Bj hj
          generalize q.getD j 0 = x at *
          obtain ⟨c, hcc, hc3⟩ := low_mod x 3 (by omega)
          obtain ⟨k, hkk, hkn⟩ := low_mod (x / 1024) (i + 1) (by omega)
          have hcc' : (bits .and .i64 x 1023).tmod 3 = (c : Int) := hcc
          have hkk' : (bits .and .i64 (x / 1024) 1023).tmod ((i : Int) + 1) = (k : Int) := hkk
          have HC := Lib.hid hc3
          clear hcc hkk hc3
          by_cases hki : k < i
          · have hki' : (k : Int) < (i : Int) := by omega
            have hcm := HRj.out.cell (j := k) (by have := HL.out; omega)
            have hlm : gm < wr.heap.size := by
              refine Nat.lt_of_not_le fun hb => ?_
              simp [World.cell?, Array.getElem?_eq_none hb] at hcm
            have HS := Lib.hid (fun (w5 : World) (F : Fr 0 0 oj oj wr w5) => mv_set c (k + 1) 3 (hs.getD k 0) wr w5 F HAj.out HC.out (by unfold cvM; rw [if_pos (by have := HL.out; omega)]; rfl) (by unfold cvM; rw [if_pos (by have := HL.out; omega)]; rfl))
            generalize hs.getD k 0 = y at *
            go_wp2_with fail
            go_at_call 68
            refine (HS.out _ (by repeat (first | exact Fr.refl HFj.out.fresh | refine Fr.drew ?_ | refine Fr.alloc ?_ _ | refine Fr.setCell ?_ _ _ (.inr (Nat.le_refl _))))).mono ?_
            rintro e w5 ⟨o5, rfl, F5, A5⟩
            have HF5 := Lib.hid (HFj.out.fr F5 (by omega))
            have HA5 := Lib.hid A5
            have HR5 := Lib.hid (HRj.out.keep F5 (.inr (by omega)))
            have HB5 := Lib.hid (HBj.out.keep F5 (.inr (by omega)))
            have hcB := HB5.out.cell HC.out
            have hfB := HB5.out.free c
            have hc3' : (c : Int) < 3 := by have := HC.out; omega
            clear F5 A5
            go_wp2_with (go_at_call 67; refine (num12 _ _).mono ?_; rintro e w' ⟨rfl, rfl⟩)
            obtain ⟨g', hg'⟩ : ∃ g', g' = updM g c (k + 1) := ⟨_, rfl⟩
            have hset := HB5.out.set HF5.out.fresh HC.out (k + 1) ((k : Int) + 1) rfl
            rw [← hg'] at hset
            have HF6 := Lib.hid (HF5.out.fr hset.1 (by omega))
            have HA6 := Lib.hid (show MvAt o5 _ p b hs g' by rw [hg']; exact HA5.out.keep hset.1 (.inl (by omega)))
            have HR6 := Lib.hid (HR5.out.keep hset.1 (.inl (by omega)))
            have HB6 := Lib.hid hset.2
            clear hset hg'
            go_loopw [18] (fun jv wr => ∃ (z : Nat) (o' : Own), z ≤ i ∧ jv = .int .i64 z ∧ LF w o' wr ∧ MvAt o' wr p b hs g' ∧ LRow o' wr 40 (.slice (some ⟨gm, 0, none⟩) i capm) hs ∧ Arr o' wr B g') (fun jv _ => i - (intOf jv).toNat)
            case atStart => exact ⟨0, _, by omega, rfl, HF6.out, HA6.out, HR6.out, HB6.out⟩
            case round =>
              obtain ⟨z, oz, hz, rfl, Fz, Az, Rz, Bz⟩ := hrel
              have HFz := Lib.hid Fz
              have HAz := Lib.hid Az
              have HRz := Lib.hid Rz
              have HBz := Lib.hid Bz
              clear Fz Az Rz Bz
              by_cases hzi : z < i
              · have hzi' : (z : Int) < (i : Int) := by omega
                have HZ := Lib.hid hzi
                clear hz hzi
                go_wp2_with fail
                obtain ⟨wz, rfl⟩ : ∃ wz : World, wz = wr := ⟨_, rfl⟩
                go_loopw [19, 20] (fun av tv wr => ∃ (t : Nat), t ≤ 3 ∧ tv = .int .i64 t ∧ av = .int .i64 (cntZ g' z t) ∧ Fr 0 0 oz oz wz wr) (fun _ tv _ => 3 - (intOf tv).toNat)
                case atStart => exact ⟨0, by omega, rfl, rfl, Fr.refl HFz.out.fresh⟩
                case round =>
                  obtain ⟨t, ht, rfl, rfl, Ft⟩ := hrel
                  have HFt := Lib.hid Ft
                  have hsm := cntZ_small g' z t
                  by_cases h3 : t < 3
                  · have h3' : (t : Int) < 3 := by omega
                    have hct := (HBz.out.keep Ft (.inr (by omega))).cell h3
                    clear Ft ht
                    have hzz : (z : Int) ≤ 10 := by omega
                    have HST := Lib.hid (show cntZ g' z (t + 1) = cntZ g' z t + indM (g' t) z from rfl)
                    by_cases he : g' t = z + 1
                    · have he' : ((g' t : Nat) : Int) = (z : Int) + 1 := by omega
                      have HE := Lib.hid (show cntZ g' z (t + 1) = cntZ g' z t + 1 by rw [HST.out]; unfold indM; rw [if_pos he])
                      rw [he'] at hct
                      clear he he'
                      generalize cntZ g' z t = u at *
                      go_wp2_with fail
                      exact ⟨⟨t + 1, by omega, by go_num, by rw [HE.out], by first | exact HFt.out | exact HFt.out.drew⟩, by simp [intOf]; omega⟩
                    · have he' : ¬ ((g' t : Nat) : Int) = (z : Int) + 1 := by omega
                      have HE := Lib.hid (show cntZ g' z (t + 1) = cntZ g' z t by rw [HST.out]; unfold indM; rw [if_neg he]; omega)
                      clear he
                      generalize ((g' t : Nat) : Int) = y2 at *
                      generalize cntZ g' z t = u at *
                      go_wp2_with fail
                      exact ⟨⟨t + 1, by omega, by go_num, by rw [HE.out], by first | exact HFt.out | exact HFt.out.drew⟩, by simp [intOf]; omega⟩
                  · have h3' : ¬ (t : Int) < 3 := by omega
                    obtain rfl : t = 3 := by omega
                    rw [cntZ_3] at *
                    have HCn := Lib.hid (fun (w8 : World) (x : Int) (F : Fr 0 0 oz oz wr w8) (hx : x = hs.getD z 0) => mv_count z x wz w8 (Ft.trans F) HAz.out (by have := HL.out; have := HZ.out; omega) hx)
                    have hcz := (HRz.out.keep Ft (.inr (by omega))).cell (j := z) (by have := HL.out; have := HZ.out; omega)
                    clear Ft ht h3
                    obtain ⟨y3, hy3⟩ : ∃ y3, y3 = hs.getD z 0 := ⟨_, rfl⟩
                    rw [← hy3] at hcz
                    have HY3 := Lib.hid hy3
                    clear hy3
                    go_wp2_with (go_at_call 39; refine (HCn.out _ y3 (by repeat (first | exact Fr.refl HFt.out.fresh | refine Fr.drew ?_ | refine Fr.alloc ?_ _)) HY3.out).mono ?_; rintro e w9 ⟨rfl, F9⟩; have HF9 := Lib.hid F9; clear F9)
                    exact ⟨⟨z + 1, oz, by have := HZ.out; omega, by go_num, HFz.out.fr HF9.out (by omega), HAz.out.keep HF9.out (.inr (by omega)), HRz.out.keep HF9.out (.inr (by omega)), HBz.out.keep HF9.out (.inr (by omega))⟩, by have := HZ.out; simp [intOf]; omega⟩
              · have hzi' : ¬ (z : Int) < (i : Int) := by omega
                obtain rfl : z = i := by omega
                clear hz hzi
                go_wp2_with fail
                exact ⟨⟨j + 1, oz, g', by omega, by go_num, HFz.out, HAz.out, HRz.out, HBz.out⟩, by simp [intOf]; omega⟩
          · have hki' : ¬ (k : Int) < (i : Int) := by omega
            have HS := Lib.hid (fun (w5 : World) (F : Fr 0 0 oj oj wr w5) => mv_set c (k + 1) 0 0 wr w5 F HAj.out HC.out (by unfold cvM; rw [if_neg (by have := HL.out; omega)]; rfl) (by unfold cvM; rw [if_neg (by have := HL.out; omega)]))
            go_wp2_with fail
            go_at_call 68
            refine (HS.out _ (by repeat (first | exact Fr.refl HFj.out.fresh | refine Fr.drew ?_ | refine Fr.alloc ?_ _ | refine Fr.setCell ?_ _ _ (.inr (Nat.le_refl _))))).mono ?_
            rintro e w5 ⟨o5, rfl, F5, A5⟩
            have HF5 := Lib.hid (HFj.out.fr F5 (by omega))
            have HA5 := Lib.hid A5
            have HR5 := Lib.hid (HRj.out.keep F5 (.inr (by omega)))
            have HB5 := Lib.hid (HBj.out.keep F5 (.inr (by omega)))
            have hcB := HB5.out.cell HC.out
            have hfB := HB5.out.free c
            have hc3' : (c : Int) < 3 := by have := HC.out; omega
            clear F5 A5
            go_wp2_with (go_at_call 67; refine (num12 _ _).mono ?_; rintro e w' ⟨rfl, rfl⟩)
            obtain ⟨g', hg'⟩ : ∃ g', g' = updM g c (k + 1) := ⟨_, rfl⟩
            have hset := HB5.out.set HF5.out.fresh HC.out (k + 1) ((k : Int) + 1) rfl
            rw [← hg'] at hset
            have HF6 := Lib.hid (HF5.out.fr hset.1 (by omega))
            have HA6 := Lib.hid (show MvAt o5 _ p b hs g' by rw [hg']; exact HA5.out.keep hset.1 (.inl (by omega)))
            have HR6 := Lib.hid (HR5.out.keep hset.1 (.inl (by omega)))
            have HB6 := Lib.hid hset.2
            clear hset hg'
            go_loopw [18] (fun jv wr => ∃ (z : Nat) (o' : Own), z ≤ i ∧ jv = .int .i64 z ∧ LF w o' wr ∧ MvAt o' wr p b hs g' ∧ LRow o' wr 40 (.slice (some ⟨gm, 0, none⟩) i capm) hs ∧ Arr o' wr B g') (fun jv _ => i - (intOf jv).toNat)
            case atStart => exact ⟨0, _, by omega, rfl, HF6.out, HA6.out, HR6.out, HB6.out⟩
            case round =>
              obtain ⟨z, oz, hz, rfl, Fz, Az, Rz, Bz⟩ := hrel
              have HFz := Lib.hid Fz
              have HAz := Lib.hid Az
              have HRz := Lib.hid Rz
              have HBz := Lib.hid Bz
              clear Fz Az Rz Bz
              by_cases hzi : z < i
              · have hzi' : (z : Int) < (i : Int) := by omega
                have HZ := Lib.hid hzi
                clear hz hzi
                go_wp2_with fail
                obtain ⟨wz, rfl⟩ : ∃ wz : World, wz = wr := ⟨_, rfl⟩
                go_loopw [19, 20] (fun av tv wr => ∃ (t : Nat), t ≤ 3 ∧ tv = .int .i64 t ∧ av = .int .i64 (cntZ g' z t) ∧ Fr 0 0 oz oz wz wr) (fun _ tv _ => 3 - (intOf tv).toNat)
                case atStart => exact ⟨0, by omega, rfl, rfl, Fr.refl HFz.out.fresh⟩
                case round =>
                  obtain ⟨t, ht, rfl, rfl, Ft⟩ := hrel
                  have HFt := Lib.hid Ft
                  have hsm := cntZ_small g' z t
                  by_cases h3 : t < 3
                  · have h3' : (t : Int) < 3 := by omega
                    have hct := (HBz.out.keep Ft (.inr (by omega))).cell h3
                    clear Ft ht
                    have hzz : (z : Int) ≤ 10 := by omega
                    have HST := Lib.hid (show cntZ g' z (t + 1) = cntZ g' z t + indM (g' t) z from rfl)
                    by_cases he : g' t = z + 1
                    · have he' : ((g' t : Nat) : Int) = (z : Int) + 1 := by omega
                      have HE := Lib.hid (show cntZ g' z (t + 1) = cntZ g' z t + 1 by rw [HST.out]; unfold indM; rw [if_pos he])
                      rw [he'] at hct
                      clear he he'
                      generalize cntZ g' z t = u at *
                      go_wp2_with fail
                      exact ⟨⟨t + 1, by omega, by go_num, by rw [HE.out], by first | exact HFt.out | exact HFt.out.drew⟩, by simp [intOf]; omega⟩
                    · have he' : ¬ ((g' t : Nat) : Int) = (z : Int) + 1 := by omega
                      have HE := Lib.hid (show cntZ g' z (t + 1) = cntZ g' z t by rw [HST.out]; unfold indM; rw [if_neg he]; omega)
                      clear he
                      generalize ((g' t : Nat) : Int) = y2 at *
                      generalize cntZ g' z t = u at *
                      go_wp2_with fail
                      exact ⟨⟨t + 1, by omega, by go_num, by rw [HE.out], by first | exact HFt.out | exact HFt.out.drew⟩, by simp [intOf]; omega⟩
                  · have h3' : ¬ (t : Int) < 3 := by omega
                    obtain rfl : t = 3 := by omega
                    rw [cntZ_3] at *
                    have HCn := Lib.hid (fun (w8 : World) (x : Int) (F : Fr 0 0 oz oz wr w8) (hx : x = hs.getD z 0) => mv_count z x wz w8 (Ft.trans F) HAz.out (by have := HL.out; have := HZ.out; omega) hx)
                    have hcz := (HRz.out.keep Ft (.inr (by omega))).cell (j := z) (by have := HL.out; have := HZ.out; omega)
                    clear Ft ht h3
                    obtain ⟨y3, hy3⟩ : ∃ y3, y3 = hs.getD z 0 := ⟨_, rfl⟩
                    rw [← hy3] at hcz
                    have HY3 := Lib.hid hy3
                    clear hy3
                    go_wp2_with (go_at_call 39; refine (HCn.out _ y3 (by repeat (first | exact Fr.refl HFt.out.fresh | refine Fr.drew ?_ | refine Fr.alloc ?_ _)) HY3.out).mono ?_; rintro e w9 ⟨rfl, F9⟩; have HF9 := Lib.hid F9; clear F9)
                    exact ⟨⟨z + 1, oz, by have := HZ.out; omega, by go_num, HFz.out.fr HF9.out (by omega), HAz.out.keep HF9.out (.inr (by omega)), HRz.out.keep HF9.out (.inr (by omega)), HBz.out.keep HF9.out (.inr (by omega))⟩, by have := HZ.out; simp [intOf]; omega⟩
              · have hzi' : ¬ (z : Int) < (i : Int) := by omega
                obtain rfl : z = i := by omega
                clear hz hzi
                go_wp2_with fail
                exact ⟨⟨j + 1, oz, g', by omega, by go_num, HFz.out, HAz.out, HRz.out, HBz.out⟩, by simp [intOf]; omega⟩
        · have hjm' : ¬ (j : Int) < (m : Int) := by omega
          have HFj := Lib.hid Fj
          clear Fj Aj Rj Bj hj hjm
          go_wp2_with fail
          go_ret
          exact ⟨rfl, HFj.out.tob⟩
theorem moves_walk (n : Int) (a1 : Option Addr) (m c1 : Nat) (z1 : List Int) (w : World) (w0 : (Lit.int .i64 n).wf = true) (w1 : InSl .i64 w a1 m c1 z1) :
    Calls Tryz.prog 12 #[.int .i64 n, .slice a1 m c1] w fun e w' => e = .returned (.bool true) ∧ Below w.heap.size w w' := by
  by_cases h : 1 ≤ n ∧ n ≤ 10 ∧ m ≤ 100
  · obtain ⟨k, rfl⟩ := Int.eq_ofNat_of_zero_le (show 0 ≤ n by omega)
    exact moves_in k a1 m c1 _ w (by omega) (by omega) h.2.2 w1.rd.1
  · exact moves_out n a1 m c1 w (by omega) w1.len_le
end Go.Proofs.YtlpklloagaccoaaGreat
