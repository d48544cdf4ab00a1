/- A block is taken, and given out (arena.great, arena.take, arena.Alloc). Conditions: nothing was freed. A block is given out (arena.Alloc). Conditions: nothing was freed, nothing waits. A block is given out (arena.Alloc), where there is one. Conditions: nothing was freed, nothing waits. -/
import Derived.Test.YtlpklloagaccoaaGreatPageW
import Derived.Test.YtlpklloagaccoaaGreatSpace
import Derived.Outline
import Derived.BigFrame
namespace Go.Proofs.YtlpklloagaccoaaGreat
open Go.RowKit
set_option linter.unusedVariables false

/-- Behind great. -/
def GreatPost (o : Own) (w : World) (r p : Nat) (S : ArS) (k : Nat) (e : Ending) (w' : World) : Prop :=
  e = .returned (.tuple #[.int .i64 (S.t * 64 : Nat), .bool true]) ∧ ∃ o', Fr r (r + 15) o o' w w' ∧ ArenaRep o' w' r p (greatS S k)
theorem take_int {o : Own} {r p n t : Nat} {R : Runs} (ki : Int) (k mk : Nat) (mki : Int) (e : ki = (k : Nat)) (e2 : mki = (mk : Nat)) (w : World) (ho : Owned o w) (P : PagesRep o w r p n (fun i => decide (i < t)) R) (h1 : 1 ≤ k) (h2 : k < 1099511627776) :
    Calls Tryz.prog 209 #[.pointer (some ⟨p, 0, none⟩), .int .i64 ki, .int .i64 mki] w (TakePost o w r p n t k mk R) := by
  subst e e2; exact take_any k mk w ho P h1 h2
set_option maxRecDepth 100000 in
set_option maxHeartbeats 1000000 in
theorem great_yes {o : Own} {r p : Nat} {S : ArS} (k : Nat) (s : Int) (w : World) (ho : Owned o w) (A : ArenaRep o w r p S) (F : Fresh S) (hk : 1 ≤ k) (hs : s = (64 * k : Nat)) (hn : S.t + k ≤ S.n) :
    Calls Tryz.prog 193 #[.pointer (some ⟨p, 0, none⟩), .int .i64 s] w (GreatPost o w r p S k) := by
  obtain ⟨g, q, l, b, v, f, A⟩ := A
  have hn4 := A.n1
  have e1 : s.tdiv 64 = (k : Nat) := by subst hs; rw [Int.tdiv_eq_ediv_of_nonneg (by omega)]; omega
  have htake := Lib.hid (take_int (r := r + 9) (s.tdiv 64) k 6 6 e1 rfl w ho (by have := A.pages; rw [F.pg] at this; exact this) hk (by omega))
  have hstart := Lib.hid (fun (w1 : World) (e : Ending) (hT : TakePost o w (r + 9) q S.n S.t k 6 S.R e w1) => show e = .returned (.int .i64 (S.t : Nat)) ∧ Fr r (r + 15) o o w w1 ∧ Arena o w1 r p { S with t := S.t + k, pg := fun i => decide (i < S.t + k), R := takeR S.R S.t k 6 k, cur := S.cur } g q l b v f by
    obtain ⟨rfl, h1, h2, _⟩ := hT
    obtain ⟨h3, h4⟩ := A.paged h1 (h2 hn) (S.t + k) S.cur
    exact ⟨by unfold runN; rw [if_pos hn], h3, h4⟩)
  have c1 := A.c1
  have t1 := F.t1
  have HS := Lib.hid hs
  have s0 : 0 ≤ s := by omega
  have s1 : s < 1000000 := by omega
  have HT := Lib.hid (show s / 64 = s.tdiv 64 by rw [Int.tdiv_eq_ediv_of_nonneg s0])
  clear A F hs e1
  go_enter Tryz.func193, Tryz.ntmps193
  go_wp2_with fail
  (try rw [HT.out])
  go_at_call 209
  refine htake.out.mono ?_
  intro e w1 hT
  obtain ⟨rfl, F1, A1⟩ := hstart.out _ _ hT
  have c3 := A1.c3
  have HA1 := Lib.hid A1
  have HF1 := Lib.hid F1
  have hmap := Lib.hid (fun x => A1.map.2.of_eq (Below.heap_alloc w1 x _ A1.map.2.lt))
  clear hT A1 F1
  go_wp2_with (at_mapUpdate; refine wpList_mapUpdate_is _ rfl _ _ _ 117 rfl 3 167 Tryz.underlying117 Tryz.underlying3 b _ (by exact hmap.out _) rfl ((S.t : Int) * 64) rfl (by omega) (by simp only [KB]; omega) _ rfl ?_; intro w4 hm4 ht4)
  rw [HS.out] at hm4 ht4
  obtain ⟨F2, A2⟩ := HA1.out.add HF1.out.fresh _ ⟨64 * k, 0, 0⟩ hm4 ht4
  go_ret2
  exact ⟨by simp, _, HF1.out.trans F2, _, _, _, _, _, _, A2.congr rfl rfl (by show updI S.bl ((S.t * 64 : Nat) : Int) _ = updI S.bl ((S.t : Int) * 64) _; simp) (fun _ _ => rfl) (fun _ _ => rfl) A2.pages⟩

theorem great_no {o : Own} {r p : Nat} {S : ArS} (k : Nat) (s : Int) (w : World) (ho : Owned o w) (A : ArenaRep o w r p S) (F : Fresh S) (hk : 1 ≤ k) (hk2 : k < 10000) (hs : s = (64 * k : Nat)) (hn : ¬ S.t + k ≤ S.n) :
    Calls Tryz.prog 193 #[.pointer (some ⟨p, 0, none⟩), .int .i64 s] w fun e w' => e = .returned (.tuple #[.int .i64 0, .bool false]) ∧ w = w' := by
  obtain ⟨g, q, l, b, v, f, A⟩ := A
  have e1 : s.tdiv 64 = (k : Nat) := by subst hs; rw [Int.tdiv_eq_ediv_of_nonneg (by omega)]; omega
  have htake := Lib.hid (take_int (r := r + 9) (s.tdiv 64) k 6 6 e1 rfl w ho (by have := A.pages; rw [F.pg] at this; exact this) hk (by omega))
  have hstart := Lib.hid (fun (w1 : World) (e : Ending) (hT : TakePost o w (r + 9) q S.n S.t k 6 S.R e w1) => show e = .returned (.int .i64 (-1)) ∧ w1 = w by
    obtain ⟨rfl, h1, h2, h3⟩ := hT
    exact ⟨by unfold runN; rw [if_neg hn], h3 hn⟩)
  have c1 := A.c1
  have s0 : 0 ≤ s := by omega
  have s1 : s < 1000000 := by omega
  have HT := Lib.hid (show s / 64 = s.tdiv 64 by rw [Int.tdiv_eq_ediv_of_nonneg s0])
  have HS := Lib.hid hs
  clear A F hs e1 hk hk2 hn
  go_enter Tryz.func193, Tryz.ntmps193
  go_wp2_with fail
  (try rw [HT.out])
  go_at_call 209
  refine htake.out.mono ?_
  intro e w1 hT
  obtain ⟨rfl, rfl⟩ := hstart.out _ _ hT
  clear hT
  go_wp2_with fail
  go_ret2
  exact ⟨rfl, rfl⟩
theorem page_no {o : Own} {r p : Nat} {S : ArS} (c : Nat) (s : Int) (w : World) (ho : Owned o w) (A : ArenaRep o w r p S) (F : Fresh S) (hc : c < 5) (hn : ¬ S.t + 1 ≤ S.n) :
    Calls Tryz.prog 195 #[.pointer (some ⟨p, 0, none⟩), .int .i64 (c : Nat), .int .i64 s] w fun e w' => e = .returned (.bool false) ∧ w = w' := by
  obtain ⟨g, q, l, b, v, f, A⟩ := A
  have htake := Lib.hid (take_one_int (r := r + 9) ((c : Int) + 1) (c + 1) (by omega) w ho (by have := A.pages; rw [F.pg] at this; exact this))
  have hstart := Lib.hid (fun (w1 : World) (e : Ending) (hT : TakePost o w (r + 9) q S.n S.t 1 (c + 1) S.R e w1) => show e = .returned (.int .i64 (-1)) ∧ w1 = w by
    obtain ⟨rfl, h1, h2, h3⟩ := hT
    exact ⟨by unfold runN; rw [if_neg hn], h3 hn⟩)
  have c1 := A.c1
  clear A F
  go_enter Tryz.func195, Tryz.ntmps195
  go_wp2_with fail
  go_at_call 209
  refine htake.out.mono ?_
  intro e w1 hT
  obtain ⟨rfl, rfl⟩ := hstart.out _ _ hT
  clear hT
  go_wp2_with fail
  go_ret
  exact ⟨rfl, rfl⟩
set_option maxRecDepth 100000 in
theorem first_none {o : Own} {r p : Nat} {S : ArS} (c : Nat) (w : World) (A : ArenaRep o w r p S) (hc : c < 5) (hl : S.rows c = []) :
    Calls Tryz.prog 194 #[.pointer (some ⟨p, 0, none⟩), .int .i64 (c : Nat)] w fun e w' => e = .returned (.tuple #[.int .i64 0, .bool false]) ∧ w = w' := by
  obtain ⟨g, q, l, b, v, f, A⟩ := A
  obtain ⟨a, cap, hv⟩ : ∃ a cap, v c = .slice a 0 cap := by
    rcases (A.row c hc).form with ⟨h1, h2⟩ | ⟨h, cap, h1, R⟩
    · exact ⟨_, _, h1⟩
    · rw [hl] at h1; exact ⟨_, _, h1⟩
  have cr : w.cell? ⟨p, 4 + c, none⟩ = some (.slice a 0 cap) := by rw [← hv, ← arCells_row hc S.n g q l b v]; exact A.blk.cell (4 + c)
  have hlen := Ar.call_len cr
  have hcn : (c : Int) < 5 := by omega
  clear A hl hv
  go_enter Tryz.func194, Tryz.ntmps194
  go_wp2_with fail
  refine wp_loop_rounds 1 ?_
  rw [rounds_succ]
  go_wp2_with (go_at_call 210; refine (Ar.row_len .nilIface _ _ _ _).mono ?_; rintro e w2 ⟨rfl, rfl⟩)
  go_ret2
  exact ⟨rfl, rfl⟩
/-- Behind take. -/
def TookPost (o : Own) (w : World) (r p : Nat) (S : ArS) (n : Nat) (e : Ending) (w' : World) : Prop :=
  (∀ T a, tookS S n = some (T, a) → e = .returned (.tuple #[.int .i64 (a : Nat), .bool true]) ∧ ∃ o', Fr r (r + 15) o o' w w' ∧ ArenaRep o' w' r p T) ∧
  (tookS S n = none → e = .returned (.tuple #[.int .i64 0, .bool false]) ∧ ∃ o', Fr r (r + 15) o o' w w' ∧ ArenaRep o' w' r p S)
set_option maxRecDepth 100000 in
set_option maxHeartbeats 1000000 in
theorem atake_any {o : Own} {r p : Nat} {S : ArS} (n : Nat) (w : World) (ho : Owned o w) (A : ArenaRep o w r p S) (F : Fresh S) (hn : n ≤ 65536) :
    Calls Tryz.prog 159 #[.pointer (some ⟨p, 0, none⟩), .int .i64 (classN n : Nat), .int .i64 (sizeN n : Nat)] w (TookPost o w r p S n) := by
  have hcl := class_le n
  by_cases h5 : classN n = 5
  · obtain ⟨hs, h32⟩ := size_large h5
    by_cases hf : S.t + (n / 64 + 1) ≤ S.n
    · have HT := Lib.hid (show tookS S n = some (greatS S (n / 64 + 1), S.t * 64) by unfold tookS; rw [if_pos h5, if_pos hf])
      have HG := Lib.hid (great_yes (n / 64 + 1) ((sizeN n : Nat) : Int) w ho A F (by omega) (by rw [hs]) hf)
      clear A F hs
      generalize sizeN n = s at *
      rw [h5]
      clear h5
      go_enter Tryz.func159, Tryz.ntmps159
      go_wp2_with fail
      go_at_call 193
      refine HG.out.mono ?_
      rintro e w1 ⟨rfl, hA⟩
      have HA := Lib.hid hA
      clear hA
      go_wp2_with fail
      go_ret2
      exact ⟨fun T a e => by rw [HT.out] at e; cases e; exact ⟨rfl, HA.out⟩, fun e => by rw [HT.out] at e; cases e⟩
    · have HT := Lib.hid (show tookS S n = none by unfold tookS; rw [if_pos h5, if_neg hf])
      have HG := Lib.hid (great_no (n / 64 + 1) ((sizeN n : Nat) : Int) w ho A F (by omega) (by omega) (by rw [hs]) hf)
      have HA := Lib.hid A
      have HO := Lib.hid ho
      clear A F hs
      generalize sizeN n = s at *
      rw [h5]
      clear h5
      go_enter Tryz.func159, Tryz.ntmps159
      go_wp2_with fail
      go_at_call 193
      refine HG.out.mono ?_
      rintro e w1 ⟨rfl, rfl⟩
      go_wp2_with fail
      go_ret2
      exact ⟨fun T a e => (by rw [HT.out] at e; cases e), fun e => ⟨rfl, o, Fr.refl HO.out, HA.out⟩⟩
  · have hc : classN n < 5 := by omega
    obtain ⟨hs, hlt⟩ := size_small hc
    have hp := per_len hc
    have hcj := F.cj _ hc
    by_cases hj : (S.cur (classN n)).2 < perN (classN n)
    · have HT := Lib.hid (show tookS S n = some (firstS S (classN n), (S.cur (classN n)).1 * 64 + (S.cur (classN n)).2 * lenN (classN n)) by unfold tookS; rw [if_neg h5, if_pos hj])
      have hl : (S.rows (classN n)).length = perN (classN n) - (S.cur (classN n)).2 := by rw [F.rows _ hc, rowAt_length]
      have HG := Lib.hid (first_some (classN n) ⟨lenN (classN n), 0, 0⟩ (((S.cur (classN n)).1 * 64 + (S.cur (classN n)).2 * lenN (classN n) : Nat) : Int) w ho A hc (by omega) (by omega) (by rw [F.rows _ hc]; exact rowAt_head hc _ hj) (F.free _ hc _ (Nat.le_refl _) hj) rfl)
      have hne : ((classN n : Int) == 5) = false := by simp; omega
      clear A F hs hl hp hcj hj hlt
      generalize sizeN n = s at *
      generalize (S.cur (classN n)).1 * 64 + (S.cur (classN n)).2 * lenN (classN n) = k at *
      generalize classN n = c at *
      go_enter Tryz.func159, Tryz.ntmps159
      go_wp2_with fail
      go_at_call 194
      refine HG.out.mono ?_
      rintro e w1 ⟨rfl, hF1, hA⟩
      have HA := Lib.hid hA
      have HF1 := Lib.hid hF1
      clear hA hF1
      go_wp2_with fail
      go_ret2
      exact ⟨fun T a e => by rw [HT.out] at e; cases e; exact ⟨rfl, o, HF1.out, HA.out⟩, fun e => by rw [HT.out] at e; cases e⟩
    · have hj2 : (S.cur (classN n)).2 = perN (classN n) := by omega
      have hrow : S.rows (classN n) = [] := by rw [F.rows _ hc, hj2]; exact rowAt_none _ _
      have HN := Lib.hid (first_none (classN n) w A hc hrow)
      have hne : ((classN n : Int) == 5) = false := by simp; omega
      have hnot : ∀ (x : Bool) (w : World), (Op.unary .not (.bool x)).run Tryz.prog w = .ok (.bool (!x)) w := fun _ _ => rfl
      by_cases hf : S.t + 1 ≤ S.n
      · have HT := Lib.hid (show tookS S n = some (firstS (pageS S (classN n)) (classN n), S.t * 64) by unfold tookS; rw [if_neg h5, if_neg hj, if_pos hf])
        have HP := Lib.hid (page_yes (classN n) ((sizeN n : Nat) : Int) w ho A F hc hj2 (by rw [hs]) hf)
        have hcu : (pageS S (classN n)).cur (classN n) = (S.t, 0) := by show updF S.cur _ _ _ = _; unfold updF; rw [if_pos rfl]
        have hro : (pageS S (classN n)).rows (classN n) = rowAt (classN n) S.t 0 := by show updF S.rows _ _ _ = _; unfold updF; rw [if_pos rfl]; rfl
        have hfr := (F.page hc hf).free (classN n) hc 0 (by rw [hcu]; exact Nat.le_refl _) (by omega)
        have HG := Lib.hid (fun (o1 : Own) (w1 : World) (ho1 : Owned o1 w1) (A1 : ArenaRep o1 w1 r p (pageS S (classN n))) => first_some (classN n) ⟨lenN (classN n), 0, 0⟩ ((S.t * 64 : Nat) : Int) w1 ho1 A1 hc (by rw [hro, rowAt_length]; omega) (by rw [hro, rowAt_length]; omega) (by rw [hro, rowAt_head hc _ (by omega)]; simp) (by rw [hcu] at hfr; simpa using hfr) rfl)
        clear A F hs hp hcj hj hlt hcu hro hfr hrow hj2
        generalize sizeN n = s at *
        generalize classN n = c at *
        go_enter Tryz.func159, Tryz.ntmps159
        go_wp2_with fail
        go_at_call 194
        refine HN.out.mono ?_
        rintro e w1 ⟨rfl, rfl⟩
        go_wp2_with fail
        go_at_call 195
        refine HP.out.mono ?_
        rintro e w1 ⟨rfl, o1, hF1, hA1⟩
        have H2 := Lib.hid (HG.out o1 w1 hF1.fresh hA1)
        have HF1 := Lib.hid hF1
        clear hF1 hA1
        go_wp2_with fail
        go_at_call 194
        refine H2.out.mono ?_
        rintro e w2 ⟨rfl, hF2, hA2⟩
        have HF2 := Lib.hid hF2
        have HA2 := Lib.hid hA2
        clear hF2 hA2
        go_wp2_with fail
        go_ret2
        exact ⟨fun T a e => by rw [HT.out] at e; cases e; exact ⟨rfl, o1, HF1.out.trans HF2.out, HA2.out⟩, fun e => by rw [HT.out] at e; cases e⟩
      · have HT := Lib.hid (show tookS S n = none by unfold tookS; rw [if_neg h5, if_neg hj, if_neg hf])
        have HP := Lib.hid (page_no (classN n) ((sizeN n : Nat) : Int) w ho A F hc hf)
        have HA := Lib.hid A
        have HO := Lib.hid ho
        clear A F hs hp hcj hj hlt hrow hj2
        generalize sizeN n = s at *
        generalize classN n = c at *
        go_enter Tryz.func159, Tryz.ntmps159
        go_wp2_with fail
        go_at_call 194
        refine HN.out.mono ?_
        rintro e w1 ⟨rfl, rfl⟩
        go_wp2_with fail
        go_at_call 195
        refine HP.out.mono ?_
        rintro e w1 ⟨rfl, rfl⟩
        go_wp2_with fail
        go_ret2
        exact ⟨fun T a e => (by rw [HT.out] at e; cases e), fun e => ⟨rfl, o, Fr.refl HO.out, HA.out⟩⟩
end Go.Proofs.YtlpklloagaccoaaGreat
namespace Go.Proofs.YtlpklloagaccoaaGreat
open Go.RowKit
set_option linter.unusedVariables false

theorem lflush0 {o : Own} {r p : Nat} (w : World) (L : LineRep o w r p) : Calls Tryz.prog 161 #[.pointer (some ⟨p, 0, none⟩)] w fun e w' => e = .returned (.slice none 0 0) ∧ w = w' := by
  obtain ⟨v, L1, L2⟩ := L
  obtain ⟨a, c, hv⟩ : ∃ a c, v = .slice a 0 c := by
    rcases L2 with h | ⟨g, a, c, cs, h, _⟩
    · exact ⟨_, _, h⟩
    · exact ⟨_, _, h⟩
  have c2 := L1.cell 2
  simp only [List.getElem?_toArray, List.getElem?_cons_zero, List.getElem?_cons_succ, hv] at c2
  clear L1 L2 hv
  go_enter Tryz.func161, Tryz.ntmps161
  go_wp2_with fail
  refine wp_loop_rounds 1 ?_
  rw [rounds_succ]
  go_wp2_with fail
  go_ret
  exact ⟨rfl, rfl⟩
theorem opens_nil (a : Value) (w : World) : Calls Tryz.prog 160 #[a, .slice none 0 0] w fun e w' => e = .returned (.tuple #[]) ∧ w = w' := by
  go_enter Tryz.func160, Tryz.ntmps160
  go_wp2_with fail
  refine wp_loop_rounds 1 ?_
  rw [rounds_succ]
  go_wp2_with fail
  go_end0
  exact ⟨rfl, rfl⟩
theorem canary_int (i : Int) (k : Nat) (e : i = (k : Nat)) (w : World) : Calls Tryz.prog 162 #[.int .i64 i] w fun e w' => e = .returned (.int .u64 (canW k : Nat)) ∧ w = w' := by
  subst e; exact canary_any k w
theorem canW_lt (a : Int) : canW a < 2 ^ 64 := by have := xor_range (IntKind.u64.wrap a) 54324593428463829; unfold canW; omega
/-- Behind Alloc. -/
def AllocPost (o : Own) (w : World) (r p : Nat) (S : ArS) (n : Nat) (e : Ending) (w' : World) : Prop :=
  (∀ T a, allocS S n = some (T, a) → e = .returned (.tuple #[.int .i64 (a : Nat), .int .i64 0]) ∧ ∃ o', Fr r (r + 15) o o' w w' ∧ ArenaRep o' w' r p T) ∧
  (allocS S n = none → e = .returned (.tuple #[.int .i64 0, .int .i64 2]) ∧ ∃ o', Fr r (r + 15) o o' w w' ∧ ArenaRep o' w' r p S)
set_option maxRecDepth 100000 in
set_option maxHeartbeats 1000000 in
theorem alloc_no {o : Own} {r p : Nat} {S : ArS} (n : Nat) (w : World) (ho : Owned o w) (A : ArenaRep o w r p S) (F : Fresh S) (h1 : 1 ≤ n) (hn : n ≤ 65536) (hT : tookS S n = none) :
    Calls Tryz.prog 102 #[.pointer (some ⟨p, 0, none⟩), .int .i64 (n : Nat)] w (AllocPost o w r p S n) := by
  have HS := Lib.hid (sizes_any n w h1 (by omega))
  have HT1 := Lib.hid (fun (o1 : Own) (w1 : World) (ho1 : Owned o1 w1) (A1 : ArenaRep o1 w1 r p S) => show Calls Tryz.prog 159 #[.pointer (some ⟨p, 0, none⟩), .int .i64 (classN n : Nat), .int .i64 (sizeN n : Nat)] w1 fun e w' => e = .returned (.tuple #[.int .i64 0, .bool false]) ∧ ∃ o', Fr r (r + 15) o1 o' w1 w' ∧ ArenaRep o' w' r p S from (atake_any n w1 ho1 A1 F hn).mono fun e w' h => h.2 hT)
  have HN : Hid (allocS S n = none) := Lib.hid (by unfold allocS; rw [hT]; rfl)
  have HTk := Lib.hid (HT1.out o w ho A)
  have n1 : (1 : Int) ≤ (n : Int) := by omega
  have n2 : (n : Int) ≤ 65536 := by omega
  have hnot : ∀ (x : Bool) (w : World), (Op.unary .not (.bool x)).run Tryz.prog w = .ok (.bool (!x)) w := fun _ _ => rfl
  clear A F hT ho
  generalize classN n = c at *
  generalize sizeN n = s at *
  go_enter Tryz.func102, Tryz.ntmps102
  go_wp2_with fail
  all_goals
    go_at_call 158
    refine HS.out.mono ?_
    rintro e w1 ⟨rfl, rfl⟩
    go_wp2_with fail
    go_at_call 159
    refine HTk.out.mono ?_
    rintro e w1 ⟨rfl, o1, F1, g, q, l, b, v, f, A1⟩
    have HTk2 := Lib.hid (HT1.out o1 w1 F1.fresh ⟨g, q, l, b, v, f, A1⟩)
    have HL := Lib.hid (lflush0 w1 A1.line)
    have c2 := A1.c2
    have HF1 := Lib.hid F1
    clear A1 F1
    go_wp2_with (first
      | (go_at_call 161; refine HL.out.mono ?_; rintro e w2 ⟨rfl, rfl⟩)
      | (go_at_call 160; refine (opens_nil _ _).mono ?_; rintro e w2 ⟨rfl, rfl⟩)
      | (go_at_call 159; refine HTk2.out.mono ?_; rintro e w2 ⟨rfl, o2, F2, A2⟩; have HF2 := Lib.hid F2; clear F2; have HA2 := Lib.hid A2; clear A2))
    go_ret2
    exact ⟨fun T a e => (by rw [HN.out] at e; cases e), fun _ => ⟨rfl, o2, HF1.out.trans HF2.out, HA2.out⟩⟩
end Go.Proofs.YtlpklloagaccoaaGreat
namespace Go.Proofs.YtlpklloagaccoaaGreat
open Go.RowKit
set_option linter.unusedVariables false

/-- While the words behind are written. -/
def finI (m : Nat → Nat) (a n i : Nat) : Nat → Nat := fun j => if a ≤ j ∧ j < a + n then 0 else if a + n ≤ j ∧ j < i then canW j else m j
theorem finI_succ (m : Nat → Nat) {a n k : Nat} (h : a + n ≤ k) : updN (finI m a n k) k (canW k) = finI m a n (k + 1) := by
  funext j
  unfold updN finI
  by_cases h1 : j = k
  · subst h1; rw [if_pos rfl, if_neg (by omega), if_pos (by omega)]
  · rw [if_neg h1]
    by_cases h2 : a ≤ j ∧ j < a + n
    · rw [if_pos h2, if_pos h2]
    · rw [if_neg h2, if_neg h2]
      by_cases h3 : a + n ≤ j ∧ j < k
      · rw [if_pos h3, if_pos (by omega)]
      · rw [if_neg h3, if_neg (by omega)]
def AllocRel (o1 : Own) (w1 : World) (r p : Nat) (T : ArS) (a n s i : Nat) (ba : Nat) (g q l b : Nat) (v : Nat → Value) (f : Int → Option Nat) (wr : World) : Prop :=
  Fr r (r + 15) o1 o1 w1 wr ∧ Arena o1 wr r p { T with m := finI T.m a n i, bl := updI T.bl (a : Int) (some ⟨s, n, 1⟩) } g q l b v f
set_option maxRecDepth 100000 in
set_option maxHeartbeats 1000000 in
theorem alloc_yes {o : Own} {r p : Nat} {S T : ArS} (n a : Nat) (w : World) (ho : Owned o w) (A : ArenaRep o w r p S) (F : Fresh S) (h1 : 1 ≤ n) (hn : n ≤ 65536) (hT : tookS S n = some (T, a)) :
    Calls Tryz.prog 102 #[.pointer (some ⟨p, 0, none⟩), .int .i64 (n : Nat)] w (AllocPost o w r p S n) := by
  have K := tookS_spec F hT
  have HS := Lib.hid (sizes_any n w h1 (by omega))
  have HTk := Lib.hid (show Calls Tryz.prog 159 #[.pointer (some ⟨p, 0, none⟩), .int .i64 (classN n : Nat), .int .i64 (sizeN n : Nat)] w fun e w' => e = .returned (.tuple #[.int .i64 (a : Nat), .bool true]) ∧ ∃ o', Fr r (r + 15) o o' w w' ∧ ArenaRep o' w' r p T from (atake_any n w ho A F hn).mono fun e w' h => h.1 T a hT)
  have HN := Lib.hid (show allocS S n = some (finS T a n (sizeN n), a) by unfold allocS; rw [hT]; rfl)
  have n1 : (1 : Int) ≤ (n : Int) := by omega
  have n2 : (n : Int) ≤ 65536 := by omega
  have hnot : ∀ (x : Bool) (w : World), (Op.unary .not (.bool x)).run Tryz.prog w = .ok (.bool (!x)) w := fun _ _ => rfl
  have hsz := size_ge n
  obtain ⟨b', e1, e2, e3, e4, e5⟩ := K.fresh.ok.nat _ _ K.bl
  simp only at e3
  have hb : b' = a := by omega
  subst hb
  have hT4 := K.fresh.ok.tn
  have hbl := Lib.hid K.bl
  clear A F hT ho e1 e4 K
  generalize classN n = c at *
  generalize sizeN n = s at *
  go_enter Tryz.func102, Tryz.ntmps102
  go_wp2_with fail
  all_goals
    go_at_call 158
    refine HS.out.mono ?_
    rintro e w1 ⟨rfl, rfl⟩
    go_wp2_with fail
    go_at_call 159
    refine HTk.out.mono ?_
    rintro e w1 ⟨rfl, o1, F1, g, q, l, b, v, f, A1⟩
    have c3 := A1.c3
    have hl := A1.look (b' : Int) false
    obtain ⟨ba, hfa, hB⟩ := A1.f_of hbl.out
    rw [hfa] at hl
    simp only [Option.map_some, Option.getD_some, Bool.false_eq_true, if_false] at hl
    have d1 := hB.cell 1
    have d2 := hB.cell 2
    have f1 := hB.free 1
    have f2 := hB.free 2
    unfold blCells at d1 d2
    simp only [List.getElem?_toArray, List.getElem?_cons_zero, List.getElem?_cons_succ] at d1 d2
    have c0 := A1.c0
    have hpb : ¬ p = ba := fun e => by have h1 := A1.blk.1; have h2 := hB.1; rw [e] at h1; omega
    have hn4 := A1.n1
    have hN : (b' : Int) + (n : Int) ≤ ((T.n * 64 : Nat) : Int) := by omega
    have hN2 : (b' : Int) + (n : Int) ≤ 262144 := by omega
    have hN3 : (b' : Int) + (s : Int) ≤ 262144 := by omega
    have HA1 := Lib.hid A1
    have HF1 := Lib.hid F1
    have HB := Lib.hid hB
    have HFA := Lib.hid hfa
    clear A1 F1 hfa hB hn4
    generalize hNN : T.n * 64 = N at c0 hN
    have HNN := Lib.hid hNN
    clear hNN
    go_wp2_with fail
    obtain ⟨W2, hW2⟩ : ∃ W2, W2 = (w1.setCell ⟨ba, 2, none⟩ (.int .i64 1)).setCell ⟨ba, 1, none⟩ (.int .i64 (n : Nat)) := ⟨_, rfl⟩
    rw [← hW2]
    have hO2 : OnlyBlk w1 W2 ba := by rw [hW2]; exact (OnlyBlk.set w1 ba 2 _).trans (OnlyBlk.set _ ba 1 _)
    have hx2 : W2.heap[ba]? = some (.cells (blCells ⟨s, n, 1⟩) 169 (0, 0)) := by rw [hW2]; exact heap_set (heap_set HB.out.2 2 _) 1 _
    obtain ⟨F2, A2⟩ := HA1.out.reblk HF1.out.fresh HFA.out ⟨s, n, 1⟩ hO2 hx2
    have hcl : ∀ ty, (Builtin.clear_ #[114] ty #[.slice (some ⟨g, b', none⟩) n (N - b')]).run Tryz.prog W2 = .ok (.tuple #[]) (W2.setCells g b' (List.replicate n (.int .u64 0))) :=
      fun ty => Lib.run_clear_slice W2 114 55 ty (.int .u64 0) Tryz.underlying114 zero_u64 rfl rfl g b' n (N - b') (by omega) (fun j hj => by rw [A2.ws.cell (i := b' + j) (by show b' + j < T.n * 64; have := HNN.out; omega)]; rfl) (fun j hj => A2.ws.free (b' + j))
    have hsb := setCells_block g (List.replicate n (Value.int .u64 0)) b' W2
    obtain ⟨F3, A3⟩ := A2.rewords F2.fresh ⟨hsb.2.2.1, hsb.2.2.2.1, hsb.2.2.2.2, hsb.2.1, hsb.1⟩ (m := finI T.m b' n (b' + n)) ((A2.ws.setCells n b').congr fun i _ => by
      unfold finI
      split
      · rfl
      · rw [if_neg (by omega)]) (fun i => by
      unfold finI
      split
      · decide
      · rw [if_neg (by omega)]; exact A2.mlt i)
    have HR : Hid (AllocRel o1 w1 r p T b' n s (b' + n) ba g q l b v f (W2.setCells g b' (List.replicate n (.int .u64 0)))) := Lib.hid ⟨F2.trans F3, A3⟩
    clear A2 F2 A3 F3 hsb hO2 hx2 hW2
    go_wp2_with (simp only [hcl])
    generalize W2.setCells g b' (List.replicate n (Value.int .u64 0)) = W3 at *
    go_loopw [11] (fun iv wr => ∃ k : Nat, b' + n ≤ k ∧ k ≤ b' + s ∧ iv = .int .i64 k ∧ AllocRel o1 w1 r p T b' n s k ba g q l b v f wr) (fun iv _ => b' + s - (intOf iv).toNat)
    case atStart => exact ⟨b' + n, by omega, by omega, by go_num, HR.out⟩
    case round =>
      obtain ⟨k, hk1, hk2, rfl, F4, A4⟩ := hrel
      by_cases hk : k < b' + s
      · have hk' : (k : Int) < (b' : Int) + (s : Int) := by omega
        have hkN : k < N := by have := HNN.out; omega
        have hkN' : (k : Int) < (N : Int) := by omega
        have e0 := A4.c0
        have e1 : wr.cell? ⟨p, 0, none⟩ = some (.slice (some ⟨g, 0, none⟩) N N) := by rw [e0]; show some (Value.slice _ (T.n * 64) (T.n * 64)) = _; rw [HNN.out]
        have e2 := A4.cw (i := k) (by show k < T.n * 64; rw [HNN.out]; exact hkN)
        have e3 := A4.ws.free k
        have HW4 := Lib.hid (A4.write F4.fresh k (canW k) (canW_lt k))
        have HF4 := Lib.hid F4
        clear A4 F4 e0
        generalize ({ T with m := finI T.m b' n k, bl := updI T.bl (b' : Int) (some ⟨s, n, 1⟩) } : ArS).m k = y at e2
        go_wp2_with fail
        go_region_with (go_at_call 162; refine (canary_int _ k rfl _).mono ?_; rintro e w5 ⟨rfl, rfl⟩)
        all_goals
          have HREL : AllocRel o1 w1 r p T b' n s (k + 1) ba g q l b v f (wr.setCell ⟨g, k, none⟩ (.int .u64 (canW k : Nat))).drew := by
            refine ⟨(HF4.out.trans HW4.out.1).drew, ?_⟩
            have h := HW4.out.2.keep ((Fr.refl (lo := 0) (hi := 0) HW4.out.1.fresh).drew) (.inr (Nat.zero_le _))
            exact h.congr rfl (finI_succ _ hk1).symm rfl (fun _ _ => rfl) (fun _ _ => rfl) h.pages
          have HRH := Lib.hid HREL
          clear HREL
          go_wp2_with fail
          exact ⟨⟨k + 1, by omega, by omega, by go_num, HRH.out⟩, by simp [intOf]; omega⟩
      · have hk' : ¬ (k : Int) < (b' : Int) + (s : Int) := by omega
        obtain rfl : k = b' + s := by omega
        go_wp2_with fail
        go_ret2
        refine ⟨fun T' a' e => ?_, fun e => (by rw [HN.out] at e; cases e)⟩
        rw [HN.out] at e
        cases e
        refine ⟨rfl, o1, HF1.out.trans F4, g, q, l, b, v, f, ?_⟩
        exact A4
theorem alloc_any {o : Own} {r p : Nat} {S : ArS} (n : Nat) (w : World) (ho : Owned o w) (A : ArenaRep o w r p S) (F : Fresh S) (h1 : 1 ≤ n) (hn : n ≤ 65536) :
    Calls Tryz.prog 102 #[.pointer (some ⟨p, 0, none⟩), .int .i64 (n : Nat)] w (AllocPost o w r p S n) := by
  cases hT : tookS S n with
  | none => exact alloc_no n w ho A F h1 hn hT
  | some x => exact alloc_yes n x.2 w ho A F h1 hn (T := x.1) hT
end Go.Proofs.YtlpklloagaccoaaGreat
