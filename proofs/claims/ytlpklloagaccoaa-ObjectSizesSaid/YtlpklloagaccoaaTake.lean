/- Pages are taken (pages.Table.Take) while what is taken is a prefix. -/
import Derived.Test.YtlpklloagaccoaaPages
namespace Go.Proofs.Ytlpklloagaccoaa
open Go.RowKit
set_option linter.unusedVariables false

def takeR (R : Runs) (t k mk : Nat) (j : Nat) : Runs := fun x => if (t : Int) ≤ x ∧ x < (t + j : Nat) then some (t, k, mk) else R x
/-- Behind Take. -/
def TakePost (o : Own) (w : World) (r p n t k mk : Nat) (R : Runs) (e : Ending) (w' : World) : Prop :=
  e = .returned (.int .i64 (runN n t k)) ∧ Fr r (r + 4) o o w w' ∧ (t + k ≤ n → PagesRep o w' r p n (fun i => decide (i < t + k)) (takeR R t k mk k)) ∧ (¬ t + k ≤ n → w' = w)
theorem Pages.step {o : Own} {w w1 w2 : World} {r p n t k mk j q b : Nat} {R : Runs} (P : Pages o w r p n (fun i => decide (i < t + j)) (takeR R t k mk j) q b) (hk : t + k ≤ n)
    (F1 : Fr (r + 1) (r + 1 + 2) o o w w1) (B1 : BsetRep o w1 (r + 1) q n (setS (fun i => decide (i < t + j)) (t + j) true))
    (M2 : MapIs w2 b (fun x => if x = ((t + j : Nat) : Int) then some (runV (t, k, mk)) else ((takeR R t k mk j) x).map runV)) (T : MapTurn w1 w2 b) :
    Fr r (r + 4) o o w w2 ∧ Pages o w2 r p n (fun i => decide (i < t + (j + 1))) (takeR R t k mk (j + 1)) q b := by
  have hob := P.map.1
  have F2 : Fr (r + 3) (r + 4) o o w1 w2 := T.fr F1.fresh (by omega)
  refine ⟨(F1.mono (by omega) (by omega)).trans (F2.mono (by omega) (by omega)), (P.blk.keep F1 (by omega)).keep F2 (by omega), (B1.keep F2 (by omega)).congr fun i _ => ?_, ⟨hob, M2.congr fun x => ?_⟩, fun x v hx => ?_⟩
  · unfold setS
    by_cases h : i = t + j
    · simp [h]
    · rw [if_neg h]; congr 1; simp; omega
  · unfold takeR
    by_cases h : x = ((t + j : Nat) : Int)
    · rw [if_pos h, if_pos (by omega)]; rfl
    · rw [if_neg h]
      by_cases h2 : (t : Int) ≤ x ∧ x < ((t + j : Nat) : Int)
      · rw [if_pos h2, if_pos (by omega)]
      · rw [if_neg h2, if_neg (by omega)]
  · unfold takeR at hx
    split at hx
    · simp only [Option.some.injEq] at hx; subst hx; exact hk
    · rename_i h2
      refine P.rng x v ?_
      unfold takeR
      rw [if_neg (by omega)]; exact hx
set_option maxRecDepth 100000 in
set_option maxHeartbeats 400000 in
theorem take_gt {o : Own} {r p n t : Nat} {R : Runs} (k mk : Nat) (w : World) (ho : Owned o w) (P : PagesRep o w r p n (fun i => decide (i < t)) R) (h1' : 1 < k) (h2 : k < 1099511627776) :
    Calls Try.prog 74 #[.pointer (some ⟨p, 0, none⟩), .int .i64 (k : Nat), .int .i64 (mk : Nat)] w (TakePost o w r p n t k mk R) := by
  obtain ⟨q, b, P⟩ := P
  have hn := P.set.le
  have c1 := P.blk.cell 1
  simp only [List.getElem?_toArray, List.getElem?_cons_zero, List.getElem?_cons_succ] at c1
  have h1 : 1 ≤ k := by omega
  have k1 : (1 : Int) < (k : Int) := by omega
  have HRUN := Lib.hid (run_prefix k w P.set h1 h2)
  have HP := Lib.hid P
  obtain ⟨v, hv⟩ : ∃ v, v = runN n t k := ⟨_, rfl⟩
  rw [← hv] at HRUN
  by_cases hfit : t + k ≤ n
  · have hvt : v = (t : Int) := by rw [hv]; unfold runN; rw [if_pos hfit]
    have HV := Lib.hid hv
    clear hv
    subst hvt
    have hneg : ¬ (t : Int) < 0 := by omega
    have S0 : Hid (Pages o w r p n (fun i => decide (i < t + 0)) (takeR R t k mk 0) q b) := by
      have e : takeR R t k mk 0 = R := by funext x; unfold takeR; rw [if_neg (by omega)]
      rw [e]; exact P
    clear P
    go_enter Try.func74, Try.ntmps74
    go_wp2_with fail
    go_at_call 83
    refine HRUN.out.mono ?_
    rintro e w1 ⟨rfl, rfl⟩
    go_wp2_with fail
    go_loopw [8] (fun av wr => ∃ j : Nat, j ≤ k ∧ av = .int .i64 (t + j : Nat) ∧ Fr r (r + 4) o o w wr ∧ Pages o wr r p n (fun i => decide (i < t + j)) (takeR R t k mk j) q b) (fun av _ => t + k - (intOf av).toNat)
    case atStart => exact ⟨0, by omega, rfl, Fr.refl ho, S0.out⟩
    case round =>
      obtain ⟨j, hj, rfl, hF, hPj⟩ := hrel
      have HF := Lib.hid hF
      have HPJ := Lib.hid hPj
      have d1 := hPj.blk.cell 1
      have d2 := hPj.blk.cell 2
      simp only [List.getElem?_toArray, List.getElem?_cons_zero, List.getElem?_cons_succ] at d1 d2
      clear hF hPj c1
      by_cases hjk : j < k
      · have hjk' : ((t + j : Nat) : Int) < (t : Int) + (k : Int) := by omega
        have hadd := Lib.hid (badd_any (t + j) wr HF.out.fresh HPJ.out.set (by omega))
        go_wp2_with fail
        go_at_call 62
        refine hadd.out.mono ?_
        rintro e w3 ⟨rfl, hf3, hb3⟩
        have P3 := HPJ.out.blk.keep hf3 (by omega)
        have M3 := Lib.hid (HPJ.out.map.keep hf3 (by omega))
        have d3 := P3.cell 2
        simp only [List.getElem?_toArray, List.getElem?_cons_zero, List.getElem?_cons_succ] at d3
        have HF3 := Lib.hid hf3
        have HB3 := Lib.hid hb3
        clear hf3 hb3 P3 d1 d2 hadd
        go_wp2_with (at_mapUpdate; refine wpList_mapUpdate_is _ rfl _ _ _ 121 rfl 3 149 Try.underlying121 Try.underlying3 b _ (by exact M3.out.2) rfl ((t + j : Nat) : Int) rfl (by omega) (by simp only [KB]; omega) _ rfl ?_; intro w4 hm4 ht4)
        obtain ⟨e1, e2⟩ := HPJ.out.step hfit HF3.out HB3.out hm4 ht4
        exact ⟨⟨j + 1, by omega, by go_num, HF.out.trans e1, e2⟩, by simp [intOf]; omega⟩
      · have hjk' : ¬ ((t + j : Nat) : Int) < (t : Int) + (k : Int) := by omega
        go_wp2_with fail
        go_ret
        obtain rfl : j = k := by omega
        exact ⟨by rw [← HV.out]; rfl, HF.out, fun _ => ⟨q, b, HPJ.out⟩, fun h => absurd hfit h⟩
  · have hvt : v = -1 := by rw [hv]; unfold runN; rw [if_neg hfit]
    have HV := Lib.hid hv
    clear hv
    subst hvt
    clear P
    go_enter Try.func74, Try.ntmps74
    go_wp2_with fail
    all_goals
      go_at_call 83
      refine HRUN.out.mono ?_
      rintro e w1 ⟨rfl, rfl⟩
      go_wp2_with fail
      go_ret
      exact ⟨by rw [← HV.out]; rfl, Fr.refl ho, fun h => absurd h hfit, fun _ => rfl⟩
set_option maxRecDepth 100000 in
set_option maxHeartbeats 400000 in
theorem take_one {o : Own} {r p n t : Nat} {R : Runs} (mk : Nat) (w : World) (ho : Owned o w) (P : PagesRep o w r p n (fun i => decide (i < t)) R) :
    Calls Try.prog 74 #[.pointer (some ⟨p, 0, none⟩), .int .i64 1, .int .i64 (mk : Nat)] w (TakePost o w r p n t 1 mk R) := by
  obtain ⟨q, b, P⟩ := P
  have hn := P.set.le
  have c1 := P.blk.cell 1
  simp only [List.getElem?_toArray, List.getElem?_cons_zero, List.getElem?_cons_succ] at c1
  have HRUN := Lib.hid (show Calls Try.prog 83 #[.pointer (some ⟨q, 0, none⟩), .int .i64 1] w (fun e w' => e = .returned (.int .i64 (runN n t 1)) ∧ w = w') from run_prefix 1 w P.set (by omega) (by omega))
  have HP := Lib.hid P
  obtain ⟨v, hv⟩ : ∃ v, v = runN n t 1 := ⟨_, rfl⟩
  rw [← hv] at HRUN
  by_cases hfit : t + 1 ≤ n
  · have hvt : v = (t : Int) := by rw [hv]; unfold runN; rw [if_pos hfit]
    have HV := Lib.hid hv
    clear hv
    subst hvt
    have hneg : ¬ (t : Int) < 0 := by omega
    have S0 : Hid (Pages o w r p n (fun i => decide (i < t + 0)) (takeR R t 1 mk 0) q b) := by
      have e : takeR R t 1 mk 0 = R := by funext x; unfold takeR; rw [if_neg (by omega)]
      rw [e]; exact P
    clear P
    go_enter Try.func74, Try.ntmps74
    go_wp2_with fail
    go_at_call 83
    refine HRUN.out.mono ?_
    rintro e w1 ⟨rfl, rfl⟩
    go_wp2_with fail
    go_loopw [8] (fun av wr => ∃ j : Nat, j ≤ 1 ∧ av = .int .i64 (t + j : Nat) ∧ Fr r (r + 4) o o w wr ∧ Pages o wr r p n (fun i => decide (i < t + j)) (takeR R t 1 mk j) q b) (fun av _ => t + 1 - (intOf av).toNat)
    case atStart => exact ⟨0, by omega, rfl, Fr.refl ho, S0.out⟩
    case round =>
      obtain ⟨j, hj, rfl, hF, hPj⟩ := hrel
      have HF := Lib.hid hF
      have HPJ := Lib.hid hPj
      have d1 := hPj.blk.cell 1
      have d2 := hPj.blk.cell 2
      simp only [List.getElem?_toArray, List.getElem?_cons_zero, List.getElem?_cons_succ] at d1 d2
      clear hF hPj c1
      by_cases hjk : j < 1
      · have hjk' : ((t + j : Nat) : Int) < (t : Int) + (1 : Int) := by omega
        have hadd := Lib.hid (badd_any (t + j) wr HF.out.fresh HPJ.out.set (by omega))
        go_wp2_with fail
        go_at_call 62
        refine hadd.out.mono ?_
        rintro e w3 ⟨rfl, hf3, hb3⟩
        have P3 := HPJ.out.blk.keep hf3 (by omega)
        have M3 := Lib.hid (HPJ.out.map.keep hf3 (by omega))
        have d3 := P3.cell 2
        simp only [List.getElem?_toArray, List.getElem?_cons_zero, List.getElem?_cons_succ] at d3
        have HF3 := Lib.hid hf3
        have HB3 := Lib.hid hb3
        clear hf3 hb3 P3 d1 d2 hadd
        go_wp2_with (at_mapUpdate; refine wpList_mapUpdate_is _ rfl _ _ _ 121 rfl 3 149 Try.underlying121 Try.underlying3 b _ (by exact M3.out.2) rfl ((t + j : Nat) : Int) rfl (by omega) (by simp only [KB]; omega) _ rfl ?_; intro w4 hm4 ht4)
        obtain ⟨e1, e2⟩ := HPJ.out.step hfit HF3.out HB3.out hm4 ht4
        exact ⟨⟨j + 1, by omega, by go_num, HF.out.trans e1, e2⟩, by simp [intOf]; omega⟩
      · have hjk' : ¬ ((t + j : Nat) : Int) < (t : Int) + (1 : Int) := by omega
        go_wp2_with fail
        go_ret
        obtain rfl : j = 1 := by omega
        exact ⟨by rw [← HV.out]; rfl, HF.out, fun _ => ⟨q, b, HPJ.out⟩, fun h => absurd hfit h⟩
  · have hvt : v = -1 := by rw [hv]; unfold runN; rw [if_neg hfit]
    have HV := Lib.hid hv
    clear hv
    subst hvt
    clear P
    go_enter Try.func74, Try.ntmps74
    go_wp2_with fail
    all_goals
      go_at_call 83
      refine HRUN.out.mono ?_
      rintro e w1 ⟨rfl, rfl⟩
      go_wp2_with fail
      go_ret
      exact ⟨by rw [← HV.out]; rfl, Fr.refl ho, fun h => absurd h hfit, fun _ => rfl⟩
theorem take_any {o : Own} {r p n t : Nat} {R : Runs} (k mk : Nat) (w : World) (ho : Owned o w) (P : PagesRep o w r p n (fun i => decide (i < t)) R) (h1 : 1 ≤ k) (h2 : k < 1099511627776) :
    Calls Try.prog 74 #[.pointer (some ⟨p, 0, none⟩), .int .i64 (k : Nat), .int .i64 (mk : Nat)] w (TakePost o w r p n t k mk R) := by
  rcases Nat.lt_or_eq_of_le h1 with h | rfl
  · exact take_gt k mk w ho P h h2
  · exact take_one mk w ho P
end Go.Proofs.Ytlpklloagaccoaa
