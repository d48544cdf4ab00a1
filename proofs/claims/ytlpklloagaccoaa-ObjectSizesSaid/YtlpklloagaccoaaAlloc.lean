/- A block is taken, and given out (arena.great, arena.take, arena.Alloc). Conditions: nothing was freed. -/
import Derived.Test.YtlpklloagaccoaaPageW
import Derived.Test.YtlpklloagaccoaaTook
import Derived.Outline
namespace Go.Proofs.Ytlpklloagaccoaa
open Go.RowKit
set_option linter.unusedVariables false

/-- Behind great. -/
def GreatPost (o : Own) (w : World) (r p : Nat) (S : ArS) (k : Nat) (e : Ending) (w' : World) : Prop :=
  e = .returned (.tuple #[.int .i64 (S.t * 64 : Nat), .bool true]) ∧ ∃ o', Fr r (r + 15) o o' w w' ∧ ArenaRep o' w' r p (greatS S k)
theorem take_int {o : Own} {r p n t : Nat} {R : Runs} (ki : Int) (k mk : Nat) (mki : Int) (e : ki = (k : Nat)) (e2 : mki = (mk : Nat)) (w : World) (ho : Owned o w) (P : PagesRep o w r p n (fun i => decide (i < t)) R) (h1 : 1 ≤ k) (h2 : k < 1099511627776) :
    Calls Try.prog 74 #[.pointer (some ⟨p, 0, none⟩), .int .i64 ki, .int .i64 mki] w (TakePost o w r p n t k mk R) := by
  subst e e2; exact take_any k mk w ho P h1 h2
set_option maxRecDepth 100000 in
set_option maxHeartbeats 1000000 in
theorem great_yes {o : Own} {r p : Nat} {S : ArS} (k : Nat) (s : Int) (w : World) (ho : Owned o w) (A : ArenaRep o w r p S) (F : Fresh S) (hk : 1 ≤ k) (hs : s = (64 * k : Nat)) (hn : S.t + k ≤ S.n) :
    Calls Try.prog 64 #[.pointer (some ⟨p, 0, none⟩), .int .i64 s] w (GreatPost o w r p S k) := by
  obtain ⟨g, q, l, b, v, f, A⟩ := A
  have hn4 := A.n1
  have e1 : s.tdiv 64 = (k : Nat) := by subst hs; rw [Int.tdiv_eq_ediv_of_nonneg (by omega)]; omega
  have htake := Lib.hid (take_int (r := r + 9) (s.tdiv 64) k 6 6 e1 rfl w ho (by have := A.pages; rw [F.pg] at this; exact this) hk (by omega))
  have hstart := Lib.hid (fun (w1 : World) (e : Ending) (hT : TakePost o w (r + 9) q S.n S.t k 6 S.R e w1) => show e = .returned (.int .i64 (S.t : Nat)) ∧ Fr r (r + 15) o o w w1 ∧ Arena o w1 r p { S with t := S.t + k, pg := fun i => decide (i < S.t + k), R := takeR S.R S.t k 6 k, cur := S.cur } g q l b v f by
    obtain ⟨rfl, h1, h2, _⟩ := hT
    obtain ⟨h3, h4⟩ := A.paged h1 (h2 hn) (S.t + k) S.cur
    exact ⟨by unfold runN; rw [if_pos hn], h3, h4⟩)
  have c1 := A.c1
  have t1 := F.t1
  have HS := Lib.hid hs
  have s0 : 0 ≤ s := by omega
  have s1 : s < 1000000 := by omega
  have HT := Lib.hid (show s / 64 = s.tdiv 64 by rw [Int.tdiv_eq_ediv_of_nonneg s0])
  clear A F hs e1
  go_enter Try.func64, Try.ntmps64
  go_wp2_with fail
  (try rw [HT.out])
  go_at_call 74
  refine htake.out.mono ?_
  intro e w1 hT
  obtain ⟨rfl, F1, A1⟩ := hstart.out _ _ hT
  have c3 := A1.c3
  have HA1 := Lib.hid A1
  have HF1 := Lib.hid F1
  have hmap := Lib.hid (fun x => A1.map.2.of_eq (Below.heap_alloc w1 x _ A1.map.2.lt))
  clear hT A1 F1
  go_wp2_with (at_mapUpdate; refine wpList_mapUpdate_is _ rfl _ _ _ 92 rfl 3 59 Try.underlying92 Try.underlying3 b _ (by exact hmap.out _) rfl ((S.t : Int) * 64) rfl (by omega) (by simp only [KB]; omega) _ rfl ?_; intro w4 hm4 ht4)
  rw [HS.out] at hm4 ht4
  obtain ⟨F2, A2⟩ := HA1.out.add HF1.out.fresh _ ⟨64 * k, 0, 0⟩ hm4 ht4
  go_ret2
  exact ⟨by simp, _, HF1.out.trans F2, _, _, _, _, _, _, A2.congr rfl rfl (by show updI S.bl ((S.t * 64 : Nat) : Int) _ = updI S.bl ((S.t : Int) * 64) _; simp) (fun _ _ => rfl) (fun _ _ => rfl) A2.pages⟩

theorem great_no {o : Own} {r p : Nat} {S : ArS} (k : Nat) (s : Int) (w : World) (ho : Owned o w) (A : ArenaRep o w r p S) (F : Fresh S) (hk : 1 ≤ k) (hk2 : k < 10000) (hs : s = (64 * k : Nat)) (hn : ¬ S.t + k ≤ S.n) :
    Calls Try.prog 64 #[.pointer (some ⟨p, 0, none⟩), .int .i64 s] w fun e w' => e = .returned (.tuple #[.int .i64 0, .bool false]) ∧ w = w' := by
  obtain ⟨g, q, l, b, v, f, A⟩ := A
  have e1 : s.tdiv 64 = (k : Nat) := by subst hs; rw [Int.tdiv_eq_ediv_of_nonneg (by omega)]; omega
  have htake := Lib.hid (take_int (r := r + 9) (s.tdiv 64) k 6 6 e1 rfl w ho (by have := A.pages; rw [F.pg] at this; exact this) hk (by omega))
  have hstart := Lib.hid (fun (w1 : World) (e : Ending) (hT : TakePost o w (r + 9) q S.n S.t k 6 S.R e w1) => show e = .returned (.int .i64 (-1)) ∧ w1 = w by
    obtain ⟨rfl, h1, h2, h3⟩ := hT
    exact ⟨by unfold runN; rw [if_neg hn], h3 hn⟩)
  have c1 := A.c1
  have s0 : 0 ≤ s := by omega
  have s1 : s < 1000000 := by omega
  have HT := Lib.hid (show s / 64 = s.tdiv 64 by rw [Int.tdiv_eq_ediv_of_nonneg s0])
  have HS := Lib.hid hs
  clear A F hs e1 hk hk2 hn
  go_enter Try.func64, Try.ntmps64
  go_wp2_with fail
  (try rw [HT.out])
  go_at_call 74
  refine htake.out.mono ?_
  intro e w1 hT
  obtain ⟨rfl, rfl⟩ := hstart.out _ _ hT
  clear hT
  go_wp2_with fail
  go_ret2
  exact ⟨rfl, rfl⟩
theorem page_no {o : Own} {r p : Nat} {S : ArS} (c : Nat) (s : Int) (w : World) (ho : Owned o w) (A : ArenaRep o w r p S) (F : Fresh S) (hc : c < 5) (hn : ¬ S.t + 1 ≤ S.n) :
    Calls Try.prog 66 #[.pointer (some ⟨p, 0, none⟩), .int .i64 (c : Nat), .int .i64 s] w fun e w' => e = .returned (.bool false) ∧ w = w' := by
  obtain ⟨g, q, l, b, v, f, A⟩ := A
  have htake := Lib.hid (take_one_int (r := r + 9) ((c : Int) + 1) (c + 1) (by omega) w ho (by have := A.pages; rw [F.pg] at this; exact this))
  have hstart := Lib.hid (fun (w1 : World) (e : Ending) (hT : TakePost o w (r + 9) q S.n S.t 1 (c + 1) S.R e w1) => show e = .returned (.int .i64 (-1)) ∧ w1 = w by
    obtain ⟨rfl, h1, h2, h3⟩ := hT
    exact ⟨by unfold runN; rw [if_neg hn], h3 hn⟩)
  have c1 := A.c1
  clear A F
  go_enter Try.func66, Try.ntmps66
  go_wp2_with fail
  go_at_call 74
  refine htake.out.mono ?_
  intro e w1 hT
  obtain ⟨rfl, rfl⟩ := hstart.out _ _ hT
  clear hT
  go_wp2_with fail
  go_ret
  exact ⟨rfl, rfl⟩
set_option maxRecDepth 100000 in
theorem first_none {o : Own} {r p : Nat} {S : ArS} (c : Nat) (w : World) (A : ArenaRep o w r p S) (hc : c < 5) (hl : S.rows c = []) :
    Calls Try.prog 65 #[.pointer (some ⟨p, 0, none⟩), .int .i64 (c : Nat)] w fun e w' => e = .returned (.tuple #[.int .i64 0, .bool false]) ∧ w = w' := by
  obtain ⟨g, q, l, b, v, f, A⟩ := A
  obtain ⟨a, cap, hv⟩ : ∃ a cap, v c = .slice a 0 cap := by
    rcases (A.row c hc).form with ⟨h1, h2⟩ | ⟨h, cap, h1, R⟩
    · exact ⟨_, _, h1⟩
    · rw [hl] at h1; exact ⟨_, _, h1⟩
  have cr : w.cell? ⟨p, 4 + c, none⟩ = some (.slice a 0 cap) := by rw [← hv, ← arCells_row hc S.n g q l b v]; exact A.blk.cell (4 + c)
  have hlen := Ar.call_len cr
  have hcn : (c : Int) < 5 := by omega
  clear A hl hv
  go_enter Try.func65, Try.ntmps65
  go_wp2_with fail
  refine wp_loop_rounds 1 ?_
  rw [rounds_succ]
  go_wp2_with (go_at_call 75; refine (Ar.row_len .nilIface _ _ _ _).mono ?_; rintro e w2 ⟨rfl, rfl⟩)
  go_ret2
  exact ⟨rfl, rfl⟩
/-- Behind take. -/
def TookPost (o : Own) (w : World) (r p : Nat) (S : ArS) (n : Nat) (e : Ending) (w' : World) : Prop :=
  (∀ T a, tookS S n = some (T, a) → e = .returned (.tuple #[.int .i64 (a : Nat), .bool true]) ∧ ∃ o', Fr r (r + 15) o o' w w' ∧ ArenaRep o' w' r p T) ∧
  (tookS S n = none → e = .returned (.tuple #[.int .i64 0, .bool false]) ∧ ∃ o', Fr r (r + 15) o o' w w' ∧ ArenaRep o' w' r p S)
set_option maxRecDepth 100000 in
set_option maxHeartbeats 1000000 in
theorem atake_any {o : Own} {r p : Nat} {S : ArS} (n : Nat) (w : World) (ho : Owned o w) (A : ArenaRep o w r p S) (F : Fresh S) (hn : n ≤ 65536) :
    Calls Try.prog 47 #[.pointer (some ⟨p, 0, none⟩), .int .i64 (classN n : Nat), .int .i64 (sizeN n : Nat)] w (TookPost o w r p S n) := by
  have hcl := class_le n
  by_cases h5 : classN n = 5
  · obtain ⟨hs, h32⟩ := size_large h5
    by_cases hf : S.t + (n / 64 + 1) ≤ S.n
    · have HT := Lib.hid (show tookS S n = some (greatS S (n / 64 + 1), S.t * 64) by unfold tookS; rw [if_pos h5, if_pos hf])
      have HG := Lib.hid (great_yes (n / 64 + 1) ((sizeN n : Nat) : Int) w ho A F (by omega) (by rw [hs]) hf)
      clear A F hs
      generalize sizeN n = s at *
      rw [h5]
      clear h5
      go_enter Try.func47, Try.ntmps47
      go_wp2_with fail
      go_at_call 64
      refine HG.out.mono ?_
      rintro e w1 ⟨rfl, hA⟩
      have HA := Lib.hid hA
      clear hA
      go_wp2_with fail
      go_ret2
      exact ⟨fun T a e => by rw [HT.out] at e; cases e; exact ⟨rfl, HA.out⟩, fun e => by rw [HT.out] at e; cases e⟩
    · have HT := Lib.hid (show tookS S n = none by unfold tookS; rw [if_pos h5, if_neg hf])
      have HG := Lib.hid (great_no (n / 64 + 1) ((sizeN n : Nat) : Int) w ho A F (by omega) (by omega) (by rw [hs]) hf)
      have HA := Lib.hid A
      have HO := Lib.hid ho
      clear A F hs
      generalize sizeN n = s at *
      rw [h5]
      clear h5
      go_enter Try.func47, Try.ntmps47
      go_wp2_with fail
      go_at_call 64
      refine HG.out.mono ?_
      rintro e w1 ⟨rfl, rfl⟩
      go_wp2_with fail
      go_ret2
      exact ⟨fun T a e => (by rw [HT.out] at e; cases e), fun e => ⟨rfl, o, Fr.refl HO.out, HA.out⟩⟩
  · have hc : classN n < 5 := by omega
    obtain ⟨hs, hlt⟩ := size_small hc
    have hp := per_len hc
    have hcj := F.cj _ hc
    by_cases hj : (S.cur (classN n)).2 < perN (classN n)
    · have HT := Lib.hid (show tookS S n = some (firstS S (classN n), (S.cur (classN n)).1 * 64 + (S.cur (classN n)).2 * lenN (classN n)) by unfold tookS; rw [if_neg h5, if_pos hj])
      have hl : (S.rows (classN n)).length = perN (classN n) - (S.cur (classN n)).2 := by rw [F.rows _ hc, rowAt_length]
      have HG := Lib.hid (first_some (classN n) ⟨lenN (classN n), 0, 0⟩ (((S.cur (classN n)).1 * 64 + (S.cur (classN n)).2 * lenN (classN n) : Nat) : Int) w ho A hc (by omega) (by omega) (by rw [F.rows _ hc]; exact rowAt_head hc _ hj) (F.free _ hc _ (Nat.le_refl _) hj) rfl)
      have hne : ((classN n : Int) == 5) = false := by simp; omega
      clear A F hs hl hp hcj hj hlt
      generalize sizeN n = s at *
      generalize (S.cur (classN n)).1 * 64 + (S.cur (classN n)).2 * lenN (classN n) = k at *
      generalize classN n = c at *
      go_enter Try.func47, Try.ntmps47
      go_wp2_with fail
      go_at_call 65
      refine HG.out.mono ?_
      rintro e w1 ⟨rfl, hF1, hA⟩
      have HA := Lib.hid hA
      have HF1 := Lib.hid hF1
      clear hA hF1
      go_wp2_with fail
      go_ret2
      exact ⟨fun T a e => by rw [HT.out] at e; cases e; exact ⟨rfl, o, HF1.out, HA.out⟩, fun e => by rw [HT.out] at e; cases e⟩
    · have hj2 : (S.cur (classN n)).2 = perN (classN n) := by omega
      have hrow : S.rows (classN n) = [] := by rw [F.rows _ hc, hj2]; exact rowAt_none _ _
      have HN := Lib.hid (first_none (classN n) w A hc hrow)
      have hne : ((classN n : Int) == 5) = false := by simp; omega
      have hnot : ∀ (x : Bool) (w : World), (Op.unary .not (.bool x)).run Try.prog w = .ok (.bool (!x)) w := fun _ _ => rfl
      by_cases hf : S.t + 1 ≤ S.n
      · have HT := Lib.hid (show tookS S n = some (firstS (pageS S (classN n)) (classN n), S.t * 64) by unfold tookS; rw [if_neg h5, if_neg hj, if_pos hf])
        have HP := Lib.hid (page_yes (classN n) ((sizeN n : Nat) : Int) w ho A F hc hj2 (by rw [hs]) hf)
        have hcu : (pageS S (classN n)).cur (classN n) = (S.t, 0) := by show updF S.cur _ _ _ = _; unfold updF; rw [if_pos rfl]
        have hro : (pageS S (classN n)).rows (classN n) = rowAt (classN n) S.t 0 := by show updF S.rows _ _ _ = _; unfold updF; rw [if_pos rfl]; rfl
        have hfr := (F.page hc hf).free (classN n) hc 0 (by rw [hcu]; exact Nat.le_refl _) (by omega)
        have HG := Lib.hid (fun (o1 : Own) (w1 : World) (ho1 : Owned o1 w1) (A1 : ArenaRep o1 w1 r p (pageS S (classN n))) => first_some (classN n) ⟨lenN (classN n), 0, 0⟩ ((S.t * 64 : Nat) : Int) w1 ho1 A1 hc (by rw [hro, rowAt_length]; omega) (by rw [hro, rowAt_length]; omega) (by rw [hro, rowAt_head hc _ (by omega)]; simp) (by rw [hcu] at hfr; simpa using hfr) rfl)
        clear A F hs hp hcj hj hlt hcu hro hfr hrow hj2
        generalize sizeN n = s at *
        generalize classN n = c at *
        go_enter Try.func47, Try.ntmps47
        go_wp2_with fail
        go_at_call 65
        refine HN.out.mono ?_
        rintro e w1 ⟨rfl, rfl⟩
        go_wp2_with fail
        go_at_call 66
        refine HP.out.mono ?_
        rintro e w1 ⟨rfl, o1, hF1, hA1⟩
        have H2 := Lib.hid (HG.out o1 w1 hF1.fresh hA1)
        have HF1 := Lib.hid hF1
        clear hF1 hA1
        go_wp2_with fail
        go_at_call 65
        refine H2.out.mono ?_
        rintro e w2 ⟨rfl, hF2, hA2⟩
        have HF2 := Lib.hid hF2
        have HA2 := Lib.hid hA2
        clear hF2 hA2
        go_wp2_with fail
        go_ret2
        exact ⟨fun T a e => by rw [HT.out] at e; cases e; exact ⟨rfl, o1, HF1.out.trans HF2.out, HA2.out⟩, fun e => by rw [HT.out] at e; cases e⟩
      · have HT := Lib.hid (show tookS S n = none by unfold tookS; rw [if_neg h5, if_neg hj, if_neg hf])
        have HP := Lib.hid (page_no (classN n) ((sizeN n : Nat) : Int) w ho A F hc hf)
        have HA := Lib.hid A
        have HO := Lib.hid ho
        clear A F hs hp hcj hj hlt hrow hj2
        generalize sizeN n = s at *
        generalize classN n = c at *
        go_enter Try.func47, Try.ntmps47
        go_wp2_with fail
        go_at_call 65
        refine HN.out.mono ?_
        rintro e w1 ⟨rfl, rfl⟩
        go_wp2_with fail
        go_at_call 66
        refine HP.out.mono ?_
        rintro e w1 ⟨rfl, rfl⟩
        go_wp2_with fail
        go_ret2
        exact ⟨fun T a e => (by rw [HT.out] at e; cases e), fun e => ⟨rfl, o, Fr.refl HO.out, HA.out⟩⟩
end Go.Proofs.Ytlpklloagaccoaa
