/- Pages (pages.Table): New, and Take while what is taken is a prefix. Conditions: at most 4096 pages. Pages are taken (pages.Table.Take) while what is taken is a prefix. What waits (line.Line), with nothing waiting and a budget of nothing: New. -/
import Derived.Test.YtlpklloagaccoaaGreatRun
import Derived.Test.YtlpklloagaccoaaGreatMaps
namespace Go.Proofs.YtlpklloagaccoaaGreat
open Go.RowKit
set_option linter.unusedVariables false

abbrev Runs := Int → Option (Nat × Nat × Nat)
def runV (x : Nat × Nat × Nat) : Value := .agg #[.int .i64 x.1, .int .i64 x.2.1, .int .i64 x.2.2]
structure Pages (o : Own) (w : World) (r p n : Nat) (S : Nat → Bool) (R : Runs) (q b : Nat) : Prop where
  blk : Blk o w r p (.cells #[.int .i64 (n : Nat), .pointer (some ⟨q, 0, none⟩), .map (some b)] 197 (0, 0))
  set : BsetRep o w (r + 1) q n S
  map : MapBlk o w (r + 3) b (fun k => (R k).map runV)
  rng : ∀ k x, R k = some x → x.1 + x.2.1 ≤ n
def PagesRep (o : Own) (w : World) (r p n : Nat) (S : Nat → Bool) (R : Runs) : Prop := ∃ q b, Pages o w r p n S R q b
theorem Pages.keep {lo hi : Nat} {o o' : Own} {w w' : World} {r p n : Nat} {S : Nat → Bool} {R : Runs} {q b : Nat} (h : Pages o w r p n S R q b) (k : Fr lo hi o o' w w') (hr : r + 4 ≤ lo ∨ hi ≤ r) : Pages o' w' r p n S R q b :=
  ⟨h.blk.keep k (by omega), h.set.keep k (by omega), h.map.keep k (by omega), h.rng⟩
theorem PagesRep.keep {lo hi : Nat} {o o' : Own} {w w' : World} {r p n : Nat} {S : Nat → Bool} {R : Runs} (h : PagesRep o w r p n S R) (k : Fr lo hi o o' w w') (hr : r + 4 ≤ lo ∨ hi ≤ r) : PagesRep o' w' r p n S R :=
  let ⟨q, b, s⟩ := h; ⟨q, b, s.keep k hr⟩
theorem BsetRep.le {o : Own} {w : World} {r p n : Nat} {S : Nat → Bool} (h : BsetRep o w r p n S) : n ≤ 4096 := let ⟨_, _, B⟩ := h; B.le
theorem BsetRep.congr {o : Own} {w : World} {r p n : Nat} {S S' : Nat → Bool} (h : BsetRep o w r p n S) (e : ∀ i, i < n → S' i = S i) : BsetRep o w r p n S' :=
  let ⟨g, m, B⟩ := h; ⟨g, m, ⟨B.blk, B.own, B.ws, B.lt, fun i hi => (B.is i hi).trans (e i hi).symm, B.le⟩⟩

theorem Fr.none {o o' : Own} {w w' : World} (h : Fr 0 0 o o' w w') (lo hi : Nat) : Fr lo hi o o' w w' :=
  ⟨h.os, h.tape, h.output, h.size, fun b hb _ => h.block b hb (.inr (Nat.zero_le _)), h.own, h.fresh⟩

/-! ### New -/
def PagesNew (o : Own) (w : World) (r n : Nat) (e : Ending) (w' : World) : Prop :=
  ∃ p o', e = .returned (.pointer (some ⟨p, 0, none⟩)) ∧ Fr r (r + 4) o o' w w' ∧ PagesRep o' w' r p n (fun i => decide (i < 1)) (fun _ => none)
theorem pages_made {o o1 : Own} {w w1 : World} {r n q : Nat} (hf : Fr (r + 1) (r + 1 + 2) o o1 w w1) (hb : BsetRep o1 w1 (r + 1) q n (fun _ => false)) :
    ∃ o2, Fr r (r + 4) o o2 w ((w1.alloc (.map #[] 0)).alloc (.cells #[.int .i64 (n : Nat), .pointer (some ⟨q, 0, none⟩), .map (some w1.heap.size)] 197)) ∧
      Pages o2 ((w1.alloc (.map #[] 0)).alloc (.cells #[.int .i64 (n : Nat), .pointer (some ⟨q, 0, none⟩), .map (some w1.heap.size)] 197)) r (w1.heap.size + 1) n (fun _ => false) (fun _ => none) q w1.heap.size := by
  have F2 := (Fr.refl (lo := 0) (hi := 0) hf.fresh).give (.map #[] 0) (r + 3)
  have M2 : MapBlk _ _ _ _ _ := MapBlk.new (o := o1) (w := w1) (r + 3)
  have F3 := (Fr.refl (lo := 0) (hi := 0) F2.fresh).give (.cells #[.int .i64 (n : Nat), .pointer (some ⟨q, 0, none⟩), .map (some w1.heap.size)] 197) r
  have B := Blk.new (o := o1.give w1.heap.size (r + 3)) (w := w1.alloc (.map #[] 0)) (.cells #[.int .i64 (n : Nat), .pointer (some ⟨q, 0, none⟩), .map (some w1.heap.size)] 197) r
  have N2 := M2.keep F3 (.inr (Nat.zero_le _))
  have S2 := (hb.keep F2 (.inr (Nat.zero_le _))).keep F3 (.inr (Nat.zero_le _))
  simp only [World.size_alloc] at *
  exact ⟨_, (hf.mono (by omega) (by omega)).trans ((F2.trans F3).none r (r + 4)), B, S2, N2.congr fun _ => rfl, fun _ _ h => by cases h⟩
theorem badd_zero0 {o : Own} {r p n : Nat} {S : Nat → Bool} (h : 1 ≤ n) (w : World) (ho : Owned o w) (B : BsetRep o w r p n S) :
    Calls Tryz.prog 191 #[.pointer (some ⟨p, 0, none⟩), .int .i64 0] w (FlipPost o w r p n (setS S 0 true) (S 0 == false)) := badd_any 0 w ho B (by omega)
theorem pages_done {o o2 : Own} {w w2 w3 : World} {r n q b p : Nat} (F2 : Fr r (r + 4) o o2 w w2) (P2 : Pages o2 w2 r p n (fun _ => false) (fun _ => none) q b) (F3 : Fr (r + 1) (r + 1 + 2) o2 o2 w2 w3) (B3 : BsetRep o2 w3 (r + 1) q n (setS (fun _ => false) 0 true)) :
    PagesNew o w r n (.returned (.pointer (some ⟨p, 0, none⟩))) w3 :=
  ⟨p, o2, rfl, F2.trans (F3.mono (by omega) (by omega)), q, b, P2.blk.keep F3 (by omega), B3.congr fun i _ => by
    unfold setS; by_cases h : i = 0 <;> simp [h], P2.map.keep F3 (by omega), P2.rng⟩
set_option maxRecDepth 100000 in
set_option maxHeartbeats 400000 in
theorem pages_new {o : Own} (r n : Nat) (w : World) (ho : Owned o w) (h0 : 1 ≤ n) (h1 : n ≤ 4096) :
    Calls Tryz.prog 155 #[.int .i64 (n : Nat)] w (PagesNew o w r n) := by
  have hmm := @run_makeMap Tryz.prog
  have n1 : (n : Int) ≤ 4096 := by omega
  have n2 : (1 : Int) ≤ (n : Int) := by omega
  have HP := Lib.hid (fun (o1 : Own) (w1 : World) (q : Nat) (hf : Fr (r + 1) (r + 1 + 2) o o1 w w1) (hb : BsetRep o1 w1 (r + 1) q n (fun _ => false)) => pages_made hf hb)
  have HN := Lib.hid (bset_new (o := o) (r + 1) n w ho h0 h1)
  go_enter Tryz.func155, Tryz.ntmps155
  go_wp2_with fail
  · go_at_call 190
    refine HN.out.mono ?_
    rintro e w1 ⟨q, o1, rfl, hf1, hb1⟩
    obtain ⟨o2, F2, P2⟩ := HP.out _ _ _ hf1 hb1
    have HF2 := Lib.hid F2
    have HP2 := Lib.hid P2
    have hadd := Lib.hid (badd_zero0 h0 _ F2.fresh P2.set)
    have c1 := P2.blk.cell 1
    simp only [List.getElem?_toArray, List.getElem?_cons_zero, List.getElem?_cons_succ] at c1
    clear P2 F2 hf1 hb1 HP HN
    go_wp2_with fail
    go_at_call 191
    refine hadd.out.mono ?_
    rintro e w3 ⟨rfl, hf3, hb3⟩
    have HF3 := Lib.hid hf3
    have HB3 := Lib.hid hb3
    clear hf3 hb3 hadd
    go_wp2
    go_ret
    exact pages_done HF2.out HP2.out HF3.out HB3.out
  · obtain rfl : n = 1 := by omega
    go_at_call 190
    refine HN.out.mono ?_
    rintro e w1 ⟨q, o1, rfl, hf1, hb1⟩
    obtain ⟨o2, F2, P2⟩ := HP.out _ _ _ hf1 hb1
    have HF2 := Lib.hid F2
    have HP2 := Lib.hid P2
    have hadd := Lib.hid (badd_zero0 h0 _ F2.fresh P2.set)
    have c1 := P2.blk.cell 1
    simp only [List.getElem?_toArray, List.getElem?_cons_zero, List.getElem?_cons_succ] at c1
    clear P2 F2 hf1 hb1 HP HN
    go_wp2_with fail
    go_at_call 191
    refine hadd.out.mono ?_
    rintro e w3 ⟨rfl, hf3, hb3⟩
    have HF3 := Lib.hid hf3
    have HB3 := Lib.hid hb3
    clear hf3 hb3 hadd
    go_wp2
    go_ret
    exact pages_done HF2.out HP2.out HF3.out HB3.out
end Go.Proofs.YtlpklloagaccoaaGreat
namespace Go.Proofs.YtlpklloagaccoaaGreat
open Go.RowKit
set_option linter.unusedVariables false

def takeR (R : Runs) (t k mk : Nat) (j : Nat) : Runs := fun x => if (t : Int) ≤ x ∧ x < (t + j : Nat) then some (t, k, mk) else R x
/-- Behind Take. -/
def TakePost (o : Own) (w : World) (r p n t k mk : Nat) (R : Runs) (e : Ending) (w' : World) : Prop :=
  e = .returned (.int .i64 (runN n t k)) ∧ Fr r (r + 4) o o w w' ∧ (t + k ≤ n → PagesRep o w' r p n (fun i => decide (i < t + k)) (takeR R t k mk k)) ∧ (¬ t + k ≤ n → w' = w)
theorem Pages.step {o : Own} {w w1 w2 : World} {r p n t k mk j q b : Nat} {R : Runs} (P : Pages o w r p n (fun i => decide (i < t + j)) (takeR R t k mk j) q b) (hk : t + k ≤ n)
    (F1 : Fr (r + 1) (r + 1 + 2) o o w w1) (B1 : BsetRep o w1 (r + 1) q n (setS (fun i => decide (i < t + j)) (t + j) true))
    (M2 : MapIs w2 b (fun x => if x = ((t + j : Nat) : Int) then some (runV (t, k, mk)) else ((takeR R t k mk j) x).map runV)) (T : MapTurn w1 w2 b) :
    Fr r (r + 4) o o w w2 ∧ Pages o w2 r p n (fun i => decide (i < t + (j + 1))) (takeR R t k mk (j + 1)) q b := by
  have hob := P.map.1
  have F2 : Fr (r + 3) (r + 4) o o w1 w2 := T.fr F1.fresh (by omega)
  refine ⟨(F1.mono (by omega) (by omega)).trans (F2.mono (by omega) (by omega)), (P.blk.keep F1 (by omega)).keep F2 (by omega), (B1.keep F2 (by omega)).congr fun i _ => ?_, ⟨hob, M2.congr fun x => ?_⟩, fun x v hx => ?_⟩
  · unfold setS
    by_cases h : i = t + j
    · simp [h]
    · rw [if_neg h]; congr 1; simp; omega
  · unfold takeR
    by_cases h : x = ((t + j : Nat) : Int)
    · rw [if_pos h, if_pos (by omega)]; rfl
    · rw [if_neg h]
      by_cases h2 : (t : Int) ≤ x ∧ x < ((t + j : Nat) : Int)
      · rw [if_pos h2, if_pos (by omega)]
      · rw [if_neg h2, if_neg (by omega)]
  · unfold takeR at hx
    split at hx
    · simp only [Option.some.injEq] at hx; subst hx; exact hk
    · rename_i h2
      refine P.rng x v ?_
      unfold takeR
      rw [if_neg (by omega)]; exact hx
set_option maxRecDepth 100000 in
set_option maxHeartbeats 400000 in
theorem take_gt {o : Own} {r p n t : Nat} {R : Runs} (k mk : Nat) (w : World) (ho : Owned o w) (P : PagesRep o w r p n (fun i => decide (i < t)) R) (h1' : 1 < k) (h2 : k < 1099511627776) :
    Calls Tryz.prog 209 #[.pointer (some ⟨p, 0, none⟩), .int .i64 (k : Nat), .int .i64 (mk : Nat)] w (TakePost o w r p n t k mk R) := by
  obtain ⟨q, b, P⟩ := P
  have hn := P.set.le
  have c1 := P.blk.cell 1
  simp only [List.getElem?_toArray, List.getElem?_cons_zero, List.getElem?_cons_succ] at c1
  have h1 : 1 ≤ k := by omega
  have k1 : (1 : Int) < (k : Int) := by omega
  have HRUN := Lib.hid (run_prefix k w P.set h1 h2)
  have HP := Lib.hid P
  obtain ⟨v, hv⟩ : ∃ v, v = runN n t k := ⟨_, rfl⟩
  rw [← hv] at HRUN
  by_cases hfit : t + k ≤ n
  · have hvt : v = (t : Int) := by rw [hv]; unfold runN; rw [if_pos hfit]
    have HV := Lib.hid hv
    clear hv
    subst hvt
    have hneg : ¬ (t : Int) < 0 := by omega
    have S0 : Hid (Pages o w r p n (fun i => decide (i < t + 0)) (takeR R t k mk 0) q b) := by
      have e : takeR R t k mk 0 = R := by funext x; unfold takeR; rw [if_neg (by omega)]
      rw [e]; exact P
    clear P
    go_enter Tryz.func209, Tryz.ntmps209
    go_wp2_with fail
    go_at_call 228
    refine HRUN.out.mono ?_
    rintro e w1 ⟨rfl, rfl⟩
    go_wp2_with fail
    go_loopw [8] (fun av wr => ∃ j : Nat, j ≤ k ∧ av = .int .i64 (t + j : Nat) ∧ Fr r (r + 4) o o w wr ∧ Pages o wr r p n (fun i => decide (i < t + j)) (takeR R t k mk j) q b) (fun av _ => t + k - (intOf av).toNat)
    case atStart => exact ⟨0, by omega, rfl, Fr.refl ho, S0.out⟩
    case round =>
      obtain ⟨j, hj, rfl, hF, hPj⟩ := hrel
      have HF := Lib.hid hF
      have HPJ := Lib.hid hPj
      have d1 := hPj.blk.cell 1
      have d2 := hPj.blk.cell 2
      simp only [List.getElem?_toArray, List.getElem?_cons_zero, List.getElem?_cons_succ] at d1 d2
      clear hF hPj c1
      by_cases hjk : j < k
      · have hjk' : ((t + j : Nat) : Int) < (t : Int) + (k : Int) := by omega
        have hadd := Lib.hid (badd_any (t + j) wr HF.out.fresh HPJ.out.set (by omega))
        go_wp2_with fail
        go_at_call 191
        refine hadd.out.mono ?_
        rintro e w3 ⟨rfl, hf3, hb3⟩
        have P3 := HPJ.out.blk.keep hf3 (by omega)
        have M3 := Lib.hid (HPJ.out.map.keep hf3 (by omega))
        have d3 := P3.cell 2
        simp only [List.getElem?_toArray, List.getElem?_cons_zero, List.getElem?_cons_succ] at d3
        have HF3 := Lib.hid hf3
        have HB3 := Lib.hid hb3
        clear hf3 hb3 P3 d1 d2 hadd
        go_wp2_with (at_mapUpdate; refine wpList_mapUpdate_is _ rfl _ _ _ 195 rfl 3 230 Tryz.underlying195 Tryz.underlying3 b _ (by exact M3.out.2) rfl ((t + j : Nat) : Int) rfl (by omega) (by simp only [KB]; omega) _ rfl ?_; intro w4 hm4 ht4)
        obtain ⟨e1, e2⟩ := HPJ.out.step hfit HF3.out HB3.out hm4 ht4
        exact ⟨⟨j + 1, by omega, by go_num, HF.out.trans e1, e2⟩, by simp [intOf]; omega⟩
      · have hjk' : ¬ ((t + j : Nat) : Int) < (t : Int) + (k : Int) := by omega
        go_wp2_with fail
        go_ret
        obtain rfl : j = k := by omega
        exact ⟨by rw [← HV.out]; rfl, HF.out, fun _ => ⟨q, b, HPJ.out⟩, fun h => absurd hfit h⟩
  · have hvt : v = -1 := by rw [hv]; unfold runN; rw [if_neg hfit]
    have HV := Lib.hid hv
    clear hv
    subst hvt
    clear P
    go_enter Tryz.func209, Tryz.ntmps209
    go_wp2_with fail
    all_goals
      go_at_call 228
      refine HRUN.out.mono ?_
      rintro e w1 ⟨rfl, rfl⟩
      go_wp2_with fail
      go_ret
      exact ⟨by rw [← HV.out]; rfl, Fr.refl ho, fun h => absurd h hfit, fun _ => rfl⟩
set_option maxRecDepth 100000 in
set_option maxHeartbeats 400000 in
theorem take_one {o : Own} {r p n t : Nat} {R : Runs} (mk : Nat) (w : World) (ho : Owned o w) (P : PagesRep o w r p n (fun i => decide (i < t)) R) :
    Calls Tryz.prog 209 #[.pointer (some ⟨p, 0, none⟩), .int .i64 1, .int .i64 (mk : Nat)] w (TakePost o w r p n t 1 mk R) := by
  obtain ⟨q, b, P⟩ := P
  have hn := P.set.le
  have c1 := P.blk.cell 1
  simp only [List.getElem?_toArray, List.getElem?_cons_zero, List.getElem?_cons_succ] at c1
  have HRUN := Lib.hid (show Calls Tryz.prog 228 #[.pointer (some ⟨q, 0, none⟩), .int .i64 1] w (fun e w' => e = .returned (.int .i64 (runN n t 1)) ∧ w = w') from run_prefix 1 w P.set (by omega) (by omega))
  have HP := Lib.hid P
  obtain ⟨v, hv⟩ : ∃ v, v = runN n t 1 := ⟨_, rfl⟩
  rw [← hv] at HRUN
  by_cases hfit : t + 1 ≤ n
  · have hvt : v = (t : Int) := by rw [hv]; unfold runN; rw [if_pos hfit]
    have HV := Lib.hid hv
    clear hv
    subst hvt
    have hneg : ¬ (t : Int) < 0 := by omega
    have S0 : Hid (Pages o w r p n (fun i => decide (i < t + 0)) (takeR R t 1 mk 0) q b) := by
      have e : takeR R t 1 mk 0 = R := by funext x; unfold takeR; rw [if_neg (by omega)]
      rw [e]; exact P
    clear P
    go_enter Tryz.func209, Tryz.ntmps209
    go_wp2_with fail
    go_at_call 228
    refine HRUN.out.mono ?_
    rintro e w1 ⟨rfl, rfl⟩
    go_wp2_with fail
    go_loopw [8] (fun av wr => ∃ j : Nat, j ≤ 1 ∧ av = .int .i64 (t + j : Nat) ∧ Fr r (r + 4) o o w wr ∧ Pages o wr r p n (fun i => decide (i < t + j)) (takeR R t 1 mk j) q b) (fun av _ => t + 1 - (intOf av).toNat)
    case atStart => exact ⟨0, by omega, rfl, Fr.refl ho, S0.out⟩
    case round =>
      obtain ⟨j, hj, rfl, hF, hPj⟩ := hrel
      have HF := Lib.hid hF
      have HPJ := Lib.hid hPj
      have d1 := hPj.blk.cell 1
      have d2 := hPj.blk.cell 2
      simp only [List.getElem?_toArray, List.getElem?_cons_zero, List.getElem?_cons_succ] at d1 d2
      clear hF hPj c1
      by_cases hjk : j < 1
      · have hjk' : ((t + j : Nat) : Int) < (t : Int) + (1 : Int) := by omega
        have hadd := Lib.hid (badd_any (t + j) wr HF.out.fresh HPJ.out.set (by omega))
        go_wp2_with fail
        go_at_call 191
        refine hadd.out.mono ?_
        rintro e w3 ⟨rfl, hf3, hb3⟩
        have P3 := HPJ.out.blk.keep hf3 (by omega)
        have M3 := Lib.hid (HPJ.out.map.keep hf3 (by omega))
        have d3 := P3.cell 2
        simp only [List.getElem?_toArray, List.getElem?_cons_zero, List.getElem?_cons_succ] at d3
        have HF3 := Lib.hid hf3
        have HB3 := Lib.hid hb3
        clear hf3 hb3 P3 d1 d2 hadd
        go_wp2_with (at_mapUpdate; refine wpList_mapUpdate_is _ rfl _ _ _ 195 rfl 3 230 Tryz.underlying195 Tryz.underlying3 b _ (by exact M3.out.2) rfl ((t + j : Nat) : Int) rfl (by omega) (by simp only [KB]; omega) _ rfl ?_; intro w4 hm4 ht4)
        obtain ⟨e1, e2⟩ := HPJ.out.step hfit HF3.out HB3.out hm4 ht4
        exact ⟨⟨j + 1, by omega, by go_num, HF.out.trans e1, e2⟩, by simp [intOf]; omega⟩
      · have hjk' : ¬ ((t + j : Nat) : Int) < (t : Int) + (1 : Int) := by omega
        go_wp2_with fail
        go_ret
        obtain rfl : j = 1 := by omega
        exact ⟨by rw [← HV.out]; rfl, HF.out, fun _ => ⟨q, b, HPJ.out⟩, fun h => absurd hfit h⟩
  · have hvt : v = -1 := by rw [hv]; unfold runN; rw [if_neg hfit]
    have HV := Lib.hid hv
    clear hv
    subst hvt
    clear P
    go_enter Tryz.func209, Tryz.ntmps209
    go_wp2_with fail
    all_goals
      go_at_call 228
      refine HRUN.out.mono ?_
      rintro e w1 ⟨rfl, rfl⟩
      go_wp2_with fail
      go_ret
      exact ⟨by rw [← HV.out]; rfl, Fr.refl ho, fun h => absurd h hfit, fun _ => rfl⟩
theorem take_any {o : Own} {r p n t : Nat} {R : Runs} (k mk : Nat) (w : World) (ho : Owned o w) (P : PagesRep o w r p n (fun i => decide (i < t)) R) (h1 : 1 ≤ k) (h2 : k < 1099511627776) :
    Calls Tryz.prog 209 #[.pointer (some ⟨p, 0, none⟩), .int .i64 (k : Nat), .int .i64 (mk : Nat)] w (TakePost o w r p n t k mk R) := by
  rcases Nat.lt_or_eq_of_le h1 with h | rfl
  · exact take_gt k mk w ho P h h2
  · exact take_one mk w ho P
end Go.Proofs.YtlpklloagaccoaaGreat
namespace Go.Proofs.YtlpklloagaccoaaGreat
open Go.RowKit
set_option linter.unusedVariables false

/-- Nothing waits; what there is of the row is the line's own. -/
structure Line0 (o : Own) (w : World) (r p : Nat) (v : Value) : Prop where
  blk : Blk o w r p (.cells #[.int .i64 0, .int .i64 0, v] 200 (0, 0))
  row : v = .slice none 0 0 ∨ ∃ g a c cs, v = .slice (some ⟨g, a, none⟩) 0 c ∧ Blk o w (r + 1) g (.cells cs 205 (0, 0)) ∧ a + 2 * c ≤ cs.size ∧ c ≤ maxLen
def LineRep (o : Own) (w : World) (r p : Nat) : Prop := ∃ v, Line0 o w r p v
theorem LineRep.keep {lo hi : Nat} {o o' : Own} {w w' : World} {r p : Nat} (h : LineRep o w r p) (k : Fr lo hi o o' w w') (hr : r + 2 ≤ lo ∨ hi ≤ r) : LineRep o' w' r p := by
  obtain ⟨v, h1, h2⟩ := h
  refine ⟨v, h1.keep k (by omega), ?_⟩
  rcases h2 with h2 | ⟨g, a, c, cs, hv, hb, h3, h4⟩
  · exact .inl h2
  · exact .inr ⟨g, a, c, cs, hv, hb.keep k (by omega), h3, h4⟩
def LineNew (o : Own) (w : World) (r : Nat) (e : Ending) (w' : World) : Prop :=
  ∃ p o', e = .returned (.pointer (some ⟨p, 0, none⟩)) ∧ Fr r (r + 2) o o' w w' ∧ LineRep o' w' r p
theorem line_made {o : Own} {w : World} (ho : Owned o w) (r : Nat) :
    LineNew o w r (.returned (.pointer (some ⟨w.heap.size, 0, none⟩))) (w.alloc (.cells #[.int .i64 0, .int .i64 0, .slice none 0 0] 200)) :=
  ⟨_, _, rfl, (Fr.refl (lo := r) (hi := r + 2) ho).give _ r, _, Blk.new _ r, .inl rfl⟩
theorem line_new {o : Own} (r : Nat) (w : World) (ho : Owned o w) : Calls Tryz.prog 156 #[.int .i64 0] w (LineNew o w r) := by
  have H := Lib.hid (line_made (w := w) ho r)
  go_enter Tryz.func156, Tryz.ntmps156
  go_wp2
  go_ret
  exact H.out
end Go.Proofs.YtlpklloagaccoaaGreat
