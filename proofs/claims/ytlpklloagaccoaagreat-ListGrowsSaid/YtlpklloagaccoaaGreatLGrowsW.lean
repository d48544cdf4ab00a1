/- How a list's store grows, within the pages there are. Conditions: the engine has 100 pages. The walk of ListGrows. No condition. -/
import Derived.Test.YtlpklloagaccoaaGreatLaw17
import Derived.Outline
namespace Go.Proofs.YtlpklloagaccoaaGreat
open Go.RowKit
set_option linter.unusedVariables false

/-- Cells of the store, and how many pages are gone at most. -/
def GB (c t : Nat) : Prop := (c = 0 ∧ t ≤ 2) ∨ (c = 4 ∧ t ≤ 3) ∨ (c = 8 ∧ t ≤ 4) ∨ (c = 16 ∧ t ≤ 5) ∨ (c = 32 ∧ t ≤ 7) ∨ (c = 64 ∧ t ≤ 10) ∨ (c = 128 ∧ t ≤ 15) ∨ (c = 256 ∧ t ≤ 24)
theorem GB.one {L : Al} {c c' k : Nat} (hm : moreN c 4 = c') (hk : (1 + 2 * c') / 64 + 1 = k) (ht : L.t + k ≤ L.n) (hb : ∀ t', t' ≤ L.t + k → GB c' t') : ∃ L' a, tookL L (wordsN (moreN c 4) 0) = some (L', a) ∧ GB (moreN c 4) L'.t := by
  rw [hm]
  have e : wordsN c' 0 = 1 + 2 * c' := rfl
  obtain ⟨L', a, h1, h2, h3⟩ := tookL_room L (wordsN c' 0) (by rw [e, hk]; exact ht)
  rw [e, hk] at h2
  exact ⟨L', a, h1, hb _ h2⟩
theorem GB.step {L : Al} {c : Nat} (h : GB c L.t) (hn : L.n = 100) (hc : c < 200) : ∃ L' a, tookL L (wordsN (moreN c 4) 0) = some (L', a) ∧ GB (moreN c 4) L'.t := by
  rcases h with ⟨rfl, h⟩ | ⟨rfl, h⟩ | ⟨rfl, h⟩ | ⟨rfl, h⟩ | ⟨rfl, h⟩ | ⟨rfl, h⟩ | ⟨rfl, h⟩ | ⟨rfl, h⟩
  · exact GB.one (c' := 4) (k := 1) (by decide) (by decide) (by omega) fun t' ht => .inr (.inl ⟨rfl, by omega⟩)
  · exact GB.one (c' := 8) (k := 1) (by decide) (by decide) (by omega) fun t' ht => .inr (.inr (.inl ⟨rfl, by omega⟩))
  · exact GB.one (c' := 16) (k := 1) (by decide) (by decide) (by omega) fun t' ht => .inr (.inr (.inr (.inl ⟨rfl, by omega⟩)))
  · exact GB.one (c' := 32) (k := 2) (by decide) (by decide) (by omega) fun t' ht => .inr (.inr (.inr (.inr (.inl ⟨rfl, by omega⟩))))
  · exact GB.one (c' := 64) (k := 3) (by decide) (by decide) (by omega) fun t' ht => .inr (.inr (.inr (.inr (.inr (.inl ⟨rfl, by omega⟩)))))
  · exact GB.one (c' := 128) (k := 5) (by decide) (by decide) (by omega) fun t' ht => .inr (.inr (.inr (.inr (.inr (.inr (.inl ⟨rfl, by omega⟩))))))
  · exact GB.one (c' := 256) (k := 9) (by decide) (by decide) (by omega) fun t' ht => .inr (.inr (.inr (.inr (.inr (.inr (.inr ⟨rfl, by omega⟩))))))
  · omega
/-- The list of the law, between two rounds. -/
structure GR (o : Own) (w : World) (p a k c : Nat) (s : Int) : Prop where
  kc : k ≤ c
  ex : ∃ S f, EngRep o w 1 p S ∧ LS S (a : Int) f k c s ∧ S.L.n = 100 ∧ GB c S.L.t
/-- The room behind a push. -/
def roomA (k c : Nat) : Nat := if k = c then moreN c 4 else c
theorem g_push {o : Own} {p a k c : Nat} {s : Int} (w0 w : World) (ho : Owned o w0) (F : Fr 0 0 o o w0 w) (G : GR o w0 p a k c s) (hk : k < 200) :
    Calls Tryz.prog 29 #[.pointer (some ⟨p, 0, none⟩), .int .i64 (a : Nat), valV 1 (k : Nat)] w fun e w' => ∃ o' s', e = .returned (.int .i64 0) ∧ Fr 1 30 o o' w0 w' ∧ GR o' w' p a (k + 1) (roomA k c) s' := by
  obtain ⟨hkc, S, f, E, A, hn, hb⟩ := G
  refine (push_any 1 (k : Int) w (by omega) F.fresh (E.keep F (.inr (Nat.zero_le _))) A (by omega) (int_ok S k (by unfold in64; omega))).mono fun e w' hh => ?_
  rcases hh with ⟨h, S', hL, ⟨h1, o', F2, E'⟩, hls⟩ | ⟨h, S', t', L2, hT2, hL, hLn, _, _, ⟨h1, o', F2, E'⟩, hls⟩ | ⟨h, hT2, _⟩
  · refine ⟨o', s, h1, (F.none 1 30).trans F2, ?_⟩
    rw [show roomA k c = c from if_neg (by omega)]
    exact ⟨by omega, S', _, E', hls, by rw [hL]; exact hn, by rw [hL]; exact hb⟩
  · obtain ⟨L', t, hT, hb2⟩ := GB.step hb hn (by omega)
    rw [hT] at hT2
    cases hT2
    refine ⟨o', (t' : Int), h1, (F.none 1 30).trans F2, ?_⟩
    rw [show roomA k c = moreN c 4 from if_pos h]
    refine ⟨?_, S', _, E', hls, by rw [hL, hLn]; exact hn, by rw [hL]; exact hb2⟩
    unfold moreN; split <;> omega
  · obtain ⟨L', t, hT, hb2⟩ := GB.step hb hn (by omega)
    rw [hT] at hT2; cases hT2
theorem g_cell {o : Own} {p a k c : Nat} {s : Int} (w0 w : World) (ho : Owned o w0) (F : Fr 0 0 o o w0 w) (G : GR o w0 p a k c s) (hc : 0 < c) :
    Calls Tryz.prog 30 #[.pointer (some ⟨p, 0, none⟩), .int .i64 (a : Nat), .int .i64 1] w fun e w' => e = .returned (.tuple #[valV 3 s, .int .i64 0]) ∧ Below w.heap.size w w' := by
  obtain ⟨_, S, f, E, ⟨⟨x, B⟩, A2, _⟩, hn, hb⟩ := G
  refine (rcell (a : Int) 1 w F.fresh (E.keep F (.inr (Nat.zero_le _)))).mono fun e w' hh => ⟨?_, hh.2⟩
  rw [hh.1, cellA_in B.st.ob (show (1 : Int) = (1 : Nat) from rfl) (by rw [B.st.two]; omega), (B.st.some_ hc).1]
  rfl
theorem g_cells {o : Own} {p a k c : Nat} {s : Int} (w0 w : World) (ho : Owned o w0) (F : Fr 0 0 o o w0 w) (G : GR o w0 p a k c s) (hc : 0 < c) :
    Calls Tryz.prog 32 #[.pointer (some ⟨p, 0, none⟩), .int .i64 s] w fun e w' => e = .returned (.int .i64 (c : Nat)) ∧ Below w.heap.size w w' := by
  obtain ⟨_, S, f, E, A, hn, hb⟩ := G
  obtain ⟨y, hy, hyc, _⟩ := A.st hc
  refine (rcells s w F.fresh (E.keep F (.inr (Nat.zero_le _)))).mono fun e w' hh => ⟨?_, hh.2⟩
  rw [hh.1, cellsA_of hy, hyc]
theorem g_kind {o : Own} {p a k c : Nat} {s : Int} (w0 w : World) (ho : Owned o w0) (F : Fr 0 0 o o w0 w) (G : GR o w0 p a k c s) (hc : 0 < c) :
    Calls Tryz.prog 33 #[.pointer (some ⟨p, 0, none⟩), .int .i64 s] w fun e w' => e = .returned (.int .i64 4) ∧ Below w.heap.size w w' := by
  obtain ⟨_, S, f, E, A, hn, hb⟩ := G
  obtain ⟨y, hy, hyc, hk, _⟩ := A.st hc
  refine (rkind s w F.fresh (E.keep F (.inr (Nat.zero_le _)))).mono fun e w' hh => ⟨?_, hh.2⟩
  rw [hh.1, kindA_of hy, hk]
  rfl
theorem g_new {o : Own} {p : Nat} (w : World) (ho : Owned o w) (E : EngRep o w 1 p (newEng 100 100)) :
    Calls Tryz.prog 28 #[.pointer (some ⟨p, 0, none⟩)] w fun e w' => ∃ a o', e = .returned (.tuple #[.int .i64 (a : Nat), .int .i64 0]) ∧ Fr 1 30 o o' w w' ∧ GR o' w' p a 0 0 0 :=
  (lready_new 100 100 w (by omega) (fun _ => (0, 0)) ho E).mono fun e w' hh => by
    obtain ⟨a, o', h1, F, S, E', A, hn, ht⟩ := hh
    exact ⟨a, o', h1, F, by omega, S, _, E', A, hn, .inl ⟨rfl, ht⟩⟩
end Go.Proofs.YtlpklloagaccoaaGreat
namespace Go.Proofs.YtlpklloagaccoaaGreat
open Go.RowKit
set_option linter.unusedVariables false

theorem GR.keep {o : Own} {w w1 : World} {p a k c : Nat} {s : Int} (G : GR o w p a k c s) (F : Fr 0 0 o o w w1) : GR o w1 p a k c s := by
  obtain ⟨h, S, f, E, A⟩ := G
  exact ⟨h, S, f, E.keep F (.inr (Nat.zero_le _)), A⟩
set_option maxRecDepth 100000 in
theorem grows_out (n : Int) (w : World) (h : ¬ (0 ≤ n ∧ n ≤ 200)) : Calls Tryz.prog 3 #[.int .i64 n] w fun e w' => e = .returned (.bool true) ∧ Below w.heap.size w w' := by
  have HA := Lib.hid (alive17 w)
  have hn : n < 0 ∨ (¬ n < 0 ∧ 200 < n) := by omega
  rcases hn with h0 | ⟨h0, h1⟩
  all_goals
    go_enter Tryz.func3, Tryz.ntmps3
    go_wp2_with fail
    go_at_call 26
    refine HA.out.mono ?_
    rintro e w1 ⟨rfl, hb⟩
    have HB := Lib.hid hb
    clear hb
    go_wp2_with fail
    go_ret
    exact ⟨rfl, HB.out⟩
set_option maxRecDepth 100000 in
set_option maxHeartbeats 1000000 in
theorem grows_in (n : Nat) (w : World) (h : n ≤ 200) : Calls Tryz.prog 3 #[.int .i64 (n : Nat)] w fun e w' => e = .returned (.bool true) ∧ Below w.heap.size w w' := by
  have HA := Lib.hid (alive17 w)
  have HN := Lib.hid (fun (w1 : World) => show Calls Tryz.prog 27 #[.int .i64 100, .int .i64 0, .int .i64 100] w1 (EngNew (fun _ => 0) w1 1 100 100) from eng_new 1 100 100 w1 (Owned.zero w1) (by omega) (by omega) (by omega) (by omega))
  have h0 : ¬ (n : Int) < 0 := by omega
  have h1 : ¬ 200 < (n : Int) := by omega
  go_enter Tryz.func3, Tryz.ntmps3
  go_wp2_with fail
  go_at_call 26
  refine HA.out.mono ?_
  rintro e w1 ⟨rfl, hb⟩
  have HB := Lib.hid hb
  clear hb
  go_wp2_with fail
  go_at_call 27
  refine (HN.out _).mono ?_
  rintro e w2 ⟨p, o2, rfl, F2, E2⟩
  have HF2 := Lib.hid F2
  have HE2 := Lib.hid E2
  clear F2 E2
  go_wp2_with fail
  go_at_call 28
  refine (g_new _ HF2.out.fresh HE2.out).mono ?_
  rintro e w3 ⟨a, o3, rfl, F3, G3⟩
  have HF3 := Lib.hid (HF2.out.trans F3)
  have HG3 := Lib.hid G3
  clear F3 G3
  go_wp2_with fail
  go_loopw [7, 8] (fun rv iv wr => ∃ (i c : Nat) (o' : Own) (s : Int), i ≤ n ∧ iv = .int .i64 i ∧ rv = .int .i64 c ∧ Fr 1 30 (fun _ => 0) o' w wr ∧ GR o' wr p a i c s) (fun _ iv _ => n - (intOf iv).toNat)
  case atStart => exact ⟨0, 0, o3, 0, by omega, rfl, rfl, (((Fr.refl (lo := 1) (hi := 30) (Owned.zero w)).below HB.out).trans HF3.out), HG3.out⟩
  case round =>
    obtain ⟨i, c, oi, s, hi, rfl, rfl, Fi, Gi⟩ := hrel
    by_cases hin : i < n
    · have hin' : (i : Int) < (n : Int) := by omega
      have hkc := Gi.kc
      have HP := Lib.hid (fun (w5 : World) (F : Fr 0 0 oi oi wr w5) => g_push wr w5 Fi.fresh F Gi (by omega))
      have HFi := Lib.hid Fi
      clear Fi Gi
      by_cases hic : i = c
      · subst hic
        have HI := Lib.hid hin
        rcases Nat.eq_zero_or_pos i with hz | hz
        · subst hz
          have HMM := Lib.hid (show ((moreN 0 4 : Nat) : Int) = 4 from rfl)
          go_wp2_with fail
          go_at_call 29
          refine (HP.out _ (by repeat (first | exact Fr.refl HFi.out.fresh | refine Fr.drew ?_ | refine Fr.alloc ?_ _))).mono ?_
          rintro e w5 ⟨o5, s5, rfl, F5, G5⟩
          have HF5 := Lib.hid (HFi.out.trans F5)
          have hc0 : 0 < roomA 0 0 := by have := G5.kc; omega
          have hrm : roomA 0 0 = moreN 0 4 := if_pos rfl
          rw [hrm] at G5 hc0
          have HC := Lib.hid (fun (w6 : World) (F : Fr 0 0 o5 o5 w5 w6) => (g_cell w5 w6 F5.fresh F G5 hc0).mono fun e w' (hh : _ ∧ Below w6.heap.size w6 w') => (⟨hh.1, F.below hh.2⟩ : e = .returned (.tuple #[valV 3 s5, .int .i64 0]) ∧ Fr 0 0 o5 o5 w5 w'))
          have HCs := Lib.hid (fun (w6 : World) (F : Fr 0 0 o5 o5 w5 w6) => (g_cells w5 w6 F5.fresh F G5 hc0).mono fun e w' (hh : _ ∧ Below w6.heap.size w6 w') => (⟨hh.1, F.below hh.2⟩ : e = .returned (.int .i64 (moreN 0 4 : Nat)) ∧ Fr 0 0 o5 o5 w5 w'))
          have HK := Lib.hid (fun (w6 : World) (F : Fr 0 0 o5 o5 w5 w6) => (g_kind w5 w6 F5.fresh F G5 hc0).mono fun e w' (hh : _ ∧ Below w6.heap.size w6 w') => (⟨hh.1, F.below hh.2⟩ : e = .returned (.int .i64 4) ∧ Fr 0 0 o5 o5 w5 w'))
          have HG5 := Lib.hid G5
          clear F5 G5
          go_wp2_with fail
          go_at_call 30
          refine (HC.out _ (by repeat (first | exact Fr.refl HF5.out.fresh | refine Fr.drew ?_ | refine Fr.alloc ?_ _))).mono ?_
          rintro e w6 ⟨rfl, F6⟩
          have HF6 := Lib.hid F6
          clear F6
          go_wp2_with (first
            | (go_at_call 31; refine (num17 _ _).mono ?_; rintro e w' ⟨rfl, rfl⟩))
          have HGr := Lib.hid (fun (w7 : World) (G : Grew o5 w6 (vX 3 s5) w7) (e : Ending) (w' : World) (hb : Below w7.heap.size w7 w') => G.below hb)
          have HO6 := Lib.hid HF6.out.fresh
          have HCs2 := Lib.hid (fun (w7 : World) (G : Grew o5 w6 (vX 3 s5) w7) => (g_cells w5 w7 HF5.out.fresh (HF6.out.trans G.fr) HG5.out hc0).mono fun e w' hh => (⟨hh.1, G.below hh.2⟩ : e = .returned (.int .i64 (moreN 0 4 : Nat)) ∧ Grew o5 w6 (vX 3 s5) w'))
          have HK2 := Lib.hid (fun (w7 : World) (G : Grew o5 w6 (vX 3 s5) w7) => (g_kind w5 w7 HF5.out.fresh (HF6.out.trans G.fr) HG5.out hc0).mono fun e w' hh => (⟨hh.1, G.below hh.2⟩ : e = .returned (.int .i64 4) ∧ Grew o5 w6 (vX 3 s5) w'))
          go_at_call 32
          refine (HCs2.out _ (by repeat (first | exact Grew.base HO6.out _ | refine Grew.drew ?_ | refine Grew.alloc ?_ _))).mono ?_
          rintro e w7 ⟨rfl, G7⟩
          have X7 := G7.x_
          unfold vX at X7
          have x0 : w7.cell? ⟨w6.heap.size, 0, none⟩ = some (.int .i64 3) := by simp [World.cell?, X7]
          have x1 : w7.cell? ⟨w6.heap.size, 1, none⟩ = some (.int .i64 s5) := by simp [World.cell?, X7]
          have HG7 := Lib.hid G7
          clear G7 X7
          go_wp2_with fail
          go_at_call 33
          refine (HK2.out _ HG7.out).mono ?_
          rintro e w8 ⟨rfl, G8⟩
          have HG8 := Lib.hid G8
          clear G8
          go_wp2_with fail
          have hcc := HMM.out
          exact ⟨⟨0 + 1, moreN 0 4, o5, s5, by omega, by go_num, by rw [HMM.out], HF5.out.trans ((HF6.out.trans HG8.out.fr).none 1 30), HG5.out.keep (HF6.out.trans HG8.out.fr)⟩, by simp [intOf]; omega⟩
        · have HMM := Lib.hid (show ((moreN i 4 : Nat) : Int) = 2 * (i : Int) from by unfold moreN; rw [if_pos hz]; omega)
          have hz0 : ¬ 2 * (i : Int) = 0 := by omega
          go_wp2_with fail
          go_at_call 29
          refine (HP.out _ (by repeat (first | exact Fr.refl HFi.out.fresh | refine Fr.drew ?_ | refine Fr.alloc ?_ _))).mono ?_
          rintro e w5 ⟨o5, s5, rfl, F5, G5⟩
          have HF5 := Lib.hid (HFi.out.trans F5)
          have hc0 : 0 < roomA i i := by have := G5.kc; omega
          have hrm : roomA i i = moreN i 4 := if_pos rfl
          rw [hrm] at G5 hc0
          have HC := Lib.hid (fun (w6 : World) (F : Fr 0 0 o5 o5 w5 w6) => (g_cell w5 w6 F5.fresh F G5 hc0).mono fun e w' (hh : _ ∧ Below w6.heap.size w6 w') => (⟨hh.1, F.below hh.2⟩ : e = .returned (.tuple #[valV 3 s5, .int .i64 0]) ∧ Fr 0 0 o5 o5 w5 w'))
          have HCs := Lib.hid (fun (w6 : World) (F : Fr 0 0 o5 o5 w5 w6) => (g_cells w5 w6 F5.fresh F G5 hc0).mono fun e w' (hh : _ ∧ Below w6.heap.size w6 w') => (⟨hh.1, F.below hh.2⟩ : e = .returned (.int .i64 (moreN i 4 : Nat)) ∧ Fr 0 0 o5 o5 w5 w'))
          have HK := Lib.hid (fun (w6 : World) (F : Fr 0 0 o5 o5 w5 w6) => (g_kind w5 w6 F5.fresh F G5 hc0).mono fun e w' (hh : _ ∧ Below w6.heap.size w6 w') => (⟨hh.1, F.below hh.2⟩ : e = .returned (.int .i64 4) ∧ Fr 0 0 o5 o5 w5 w'))
          have HG5 := Lib.hid G5
          clear F5 G5
          go_wp2_with fail
          go_at_call 30
          refine (HC.out _ (by repeat (first | exact Fr.refl HF5.out.fresh | refine Fr.drew ?_ | refine Fr.alloc ?_ _))).mono ?_
          rintro e w6 ⟨rfl, F6⟩
          have HF6 := Lib.hid F6
          clear F6
          go_wp2_with (first
            | (go_at_call 31; refine (num17 _ _).mono ?_; rintro e w' ⟨rfl, rfl⟩))
          have HGr := Lib.hid (fun (w7 : World) (G : Grew o5 w6 (vX 3 s5) w7) (e : Ending) (w' : World) (hb : Below w7.heap.size w7 w') => G.below hb)
          have HO6 := Lib.hid HF6.out.fresh
          have HCs2 := Lib.hid (fun (w7 : World) (G : Grew o5 w6 (vX 3 s5) w7) => (g_cells w5 w7 HF5.out.fresh (HF6.out.trans G.fr) HG5.out hc0).mono fun e w' hh => (⟨hh.1, G.below hh.2⟩ : e = .returned (.int .i64 (moreN i 4 : Nat)) ∧ Grew o5 w6 (vX 3 s5) w'))
          have HK2 := Lib.hid (fun (w7 : World) (G : Grew o5 w6 (vX 3 s5) w7) => (g_kind w5 w7 HF5.out.fresh (HF6.out.trans G.fr) HG5.out hc0).mono fun e w' hh => (⟨hh.1, G.below hh.2⟩ : e = .returned (.int .i64 4) ∧ Grew o5 w6 (vX 3 s5) w'))
          go_at_call 32
          refine (HCs2.out _ (by repeat (first | exact Grew.base HO6.out _ | refine Grew.drew ?_ | refine Grew.alloc ?_ _))).mono ?_
          rintro e w7 ⟨rfl, G7⟩
          have X7 := G7.x_
          unfold vX at X7
          have x0 : w7.cell? ⟨w6.heap.size, 0, none⟩ = some (.int .i64 3) := by simp [World.cell?, X7]
          have x1 : w7.cell? ⟨w6.heap.size, 1, none⟩ = some (.int .i64 s5) := by simp [World.cell?, X7]
          have HG7 := Lib.hid G7
          clear G7 X7
          go_wp2_with fail
          go_at_call 33
          refine (HK2.out _ HG7.out).mono ?_
          rintro e w8 ⟨rfl, G8⟩
          have HG8 := Lib.hid G8
          clear G8
          go_wp2_with fail
          have hcc := HMM.out
          exact ⟨⟨i + 1, moreN i 4, o5, s5, by omega, by go_num, by rw [HMM.out], HF5.out.trans ((HF6.out.trans HG8.out.fr).none 1 30), HG5.out.keep (HF6.out.trans HG8.out.fr)⟩, by simp [intOf]; omega⟩
      · have hne : ¬ (i : Int) = (c : Int) := by omega
        go_wp2_with fail
        go_at_call 29
        refine (HP.out _ (by repeat (first | exact Fr.refl HFi.out.fresh | refine Fr.drew ?_ | refine Fr.alloc ?_ _))).mono ?_
        rintro e w5 ⟨o5, s5, rfl, F5, G5⟩
        have HF5 := Lib.hid (HFi.out.trans F5)
        have hc0 : 0 < roomA i c := by have := G5.kc; omega
        have hrm : roomA i c = c := if_neg hic
        rw [hrm] at G5 hc0
        have HC := Lib.hid (fun (w6 : World) (F : Fr 0 0 o5 o5 w5 w6) => (g_cell w5 w6 F5.fresh F G5 hc0).mono fun e w' (hh : _ ∧ Below w6.heap.size w6 w') => (⟨hh.1, F.below hh.2⟩ : e = .returned (.tuple #[valV 3 s5, .int .i64 0]) ∧ Fr 0 0 o5 o5 w5 w'))
        have HCs := Lib.hid (fun (w6 : World) (F : Fr 0 0 o5 o5 w5 w6) => (g_cells w5 w6 F5.fresh F G5 hc0).mono fun e w' (hh : _ ∧ Below w6.heap.size w6 w') => (⟨hh.1, F.below hh.2⟩ : e = .returned (.int .i64 (c : Nat)) ∧ Fr 0 0 o5 o5 w5 w'))
        have HK := Lib.hid (fun (w6 : World) (F : Fr 0 0 o5 o5 w5 w6) => (g_kind w5 w6 F5.fresh F G5 hc0).mono fun e w' (hh : _ ∧ Below w6.heap.size w6 w') => (⟨hh.1, F.below hh.2⟩ : e = .returned (.int .i64 4) ∧ Fr 0 0 o5 o5 w5 w'))
        have HG5 := Lib.hid G5
        clear F5 G5
        go_wp2_with fail
        go_at_call 30
        refine (HC.out _ (by repeat (first | exact Fr.refl HF5.out.fresh | refine Fr.drew ?_ | refine Fr.alloc ?_ _))).mono ?_
        rintro e w6 ⟨rfl, F6⟩
        have HF6 := Lib.hid F6
        clear F6
        go_wp2_with (first
          | (go_at_call 31; refine (num17 _ _).mono ?_; rintro e w' ⟨rfl, rfl⟩))
        have HGr := Lib.hid (fun (w7 : World) (G : Grew o5 w6 (vX 3 s5) w7) (e : Ending) (w' : World) (hb : Below w7.heap.size w7 w') => G.below hb)
        have HO6 := Lib.hid HF6.out.fresh
        have HCs2 := Lib.hid (fun (w7 : World) (G : Grew o5 w6 (vX 3 s5) w7) => (g_cells w5 w7 HF5.out.fresh (HF6.out.trans G.fr) HG5.out hc0).mono fun e w' hh => (⟨hh.1, G.below hh.2⟩ : e = .returned (.int .i64 (c : Nat)) ∧ Grew o5 w6 (vX 3 s5) w'))
        have HK2 := Lib.hid (fun (w7 : World) (G : Grew o5 w6 (vX 3 s5) w7) => (g_kind w5 w7 HF5.out.fresh (HF6.out.trans G.fr) HG5.out hc0).mono fun e w' hh => (⟨hh.1, G.below hh.2⟩ : e = .returned (.int .i64 4) ∧ Grew o5 w6 (vX 3 s5) w'))
        go_at_call 32
        refine (HCs2.out _ (by repeat (first | exact Grew.base HO6.out _ | refine Grew.drew ?_ | refine Grew.alloc ?_ _))).mono ?_
        rintro e w7 ⟨rfl, G7⟩
        have X7 := G7.x_
        unfold vX at X7
        have x0 : w7.cell? ⟨w6.heap.size, 0, none⟩ = some (.int .i64 3) := by simp [World.cell?, X7]
        have x1 : w7.cell? ⟨w6.heap.size, 1, none⟩ = some (.int .i64 s5) := by simp [World.cell?, X7]
        have HG7 := Lib.hid G7
        clear G7 X7
        go_wp2_with fail
        go_at_call 33
        refine (HK2.out _ HG7.out).mono ?_
        rintro e w8 ⟨rfl, G8⟩
        have HG8 := Lib.hid G8
        clear G8
        go_wp2_with fail
        exact ⟨⟨i + 1, c, o5, s5, by omega, by go_num, rfl, HF5.out.trans ((HF6.out.trans HG8.out.fr).none 1 30), HG5.out.keep (HF6.out.trans HG8.out.fr)⟩, by simp [intOf]; omega⟩
    · have hin' : ¬ (i : Int) < (n : Int) := by omega
      have HB2 := Lib.hid (Fr.to_below (by omega) Fi)
      clear Gi Fi
      go_wp2_with fail
      go_ret
      exact ⟨rfl, HB2.out⟩
theorem grows_walk (n : Int) (w : World) : Calls Tryz.prog 3 #[.int .i64 n] w fun e w' => e = .returned (.bool true) ∧ Below w.heap.size w w' := by
  by_cases h : 0 ≤ n ∧ n ≤ 200
  · obtain ⟨k, rfl⟩ := Int.eq_ofNat_of_zero_le h.1
    exact grows_in k w (by omega)
  · exact grows_out n w h
end Go.Proofs.YtlpklloagaccoaaGreat
