/- A list of numbers, as it is pushed, put, and read. Conditions: the engine has 100 pages; 300 numbers at most. The walk of ListKeeps. No condition but on how the slices lie. -/
import Derived.Test.YtlpklloagaccoaaGreatLaw17
import Derived.Test.YtlpklloagaccoaaGreatSl
import Derived.Outline
namespace Go.Proofs.YtlpklloagaccoaaGreat
open Go.RowKit
set_option linter.unusedVariables false

/-- Cells of the store, and how many pages are gone at most. -/
def GK (c t : Nat) : Prop := (c = 0 ∧ t ≤ 2) ∨ (c = 4 ∧ t ≤ 3) ∨ (c = 8 ∧ t ≤ 4) ∨ (c = 16 ∧ t ≤ 5) ∨ (c = 32 ∧ t ≤ 7) ∨ (c = 64 ∧ t ≤ 10) ∨ (c = 128 ∧ t ≤ 15) ∨ (c = 256 ∧ t ≤ 24) ∨ (c = 512 ∧ t ≤ 41)
theorem GK.one {L : Al} {c c' k : Nat} (hm : moreN c 4 = c') (hk : (1 + 2 * c') / 64 + 1 = k) (ht : L.t + k ≤ L.n) (hb : ∀ t', t' ≤ L.t + k → GK c' t') : ∃ L' a, tookL L (wordsN (moreN c 4) 0) = some (L', a) ∧ GK (moreN c 4) L'.t := by
  rw [hm]
  have e : wordsN c' 0 = 1 + 2 * c' := rfl
  obtain ⟨L', a, h1, h2, h3⟩ := tookL_room L (wordsN c' 0) (by rw [e, hk]; exact ht)
  rw [e, hk] at h2
  exact ⟨L', a, h1, hb _ h2⟩
theorem GK.step {L : Al} {c : Nat} (h : GK c L.t) (hn : L.n = 100) (hc : c < 300) : ∃ L' a, tookL L (wordsN (moreN c 4) 0) = some (L', a) ∧ GK (moreN c 4) L'.t := by
  rcases h with ⟨rfl, h⟩ | ⟨rfl, h⟩ | ⟨rfl, h⟩ | ⟨rfl, h⟩ | ⟨rfl, h⟩ | ⟨rfl, h⟩ | ⟨rfl, h⟩ | ⟨rfl, h⟩ | ⟨rfl, h⟩
  · exact GK.one (c' := 4) (k := 1) (by decide) (by decide) (by omega) fun t' ht => .inr (.inl ⟨rfl, by omega⟩)
  · exact GK.one (c' := 8) (k := 1) (by decide) (by decide) (by omega) fun t' ht => .inr (.inr (.inl ⟨rfl, by omega⟩))
  · exact GK.one (c' := 16) (k := 1) (by decide) (by decide) (by omega) fun t' ht => .inr (.inr (.inr (.inl ⟨rfl, by omega⟩)))
  · exact GK.one (c' := 32) (k := 2) (by decide) (by decide) (by omega) fun t' ht => .inr (.inr (.inr (.inr (.inl ⟨rfl, by omega⟩))))
  · exact GK.one (c' := 64) (k := 3) (by decide) (by decide) (by omega) fun t' ht => .inr (.inr (.inr (.inr (.inr (.inl ⟨rfl, by omega⟩)))))
  · exact GK.one (c' := 128) (k := 5) (by decide) (by decide) (by omega) fun t' ht => .inr (.inr (.inr (.inr (.inr (.inr (.inl ⟨rfl, by omega⟩))))))
  · exact GK.one (c' := 256) (k := 9) (by decide) (by decide) (by omega) fun t' ht => .inr (.inr (.inr (.inr (.inr (.inr (.inr (.inl ⟨rfl, by omega⟩)))))))
  · exact GK.one (c' := 512) (k := 17) (by decide) (by decide) (by omega) fun t' ht => .inr (.inr (.inr (.inr (.inr (.inr (.inr (.inr ⟨rfl, by omega⟩)))))))
  · omega
/-- The list of the law. -/
structure KL (o : Own) (w : World) (p a k : Nat) (g : Nat → Int) : Prop where
  ex : ∃ S c s, EngRep o w 1 p S ∧ LS S (a : Int) (fun i => (1, g i)) k c s ∧ S.L.n = 100 ∧ GK c S.L.t
theorem KL.keep {lo hi : Nat} {o o1 : Own} {w w1 : World} {p a k : Nat} {g : Nat → Int} (G : KL o w p a k g) (F : Fr lo hi o o1 w w1) (h : 30 ≤ lo ∨ hi ≤ 1) : KL o1 w1 p a k g := by
  obtain ⟨S, c, s, E, A⟩ := G
  exact ⟨S, c, s, E.keep F (by omega), A⟩
theorem updF_one (g : Nat → Int) (k : Nat) (v : Int) : updF (fun i => ((1 : Nat), g i)) k (1, v) = fun i => (1, updF g k v i) := by
  funext i
  unfold updF
  split <;> rfl
theorem k_push {o : Own} {p a k : Nat} {g : Nat → Int} (v : Int) (w0 w : World) (F : Fr 0 0 o o w0 w) (G : KL o w0 p a k g) (hk : k < 300) (hv : in64 v) :
    Calls Tryz.prog 29 #[.pointer (some ⟨p, 0, none⟩), .int .i64 (a : Nat), valV 1 v] w fun e w' => ∃ o', e = .returned (.int .i64 0) ∧ Fr 1 30 o o' w0 w' ∧ KL o' w' p a (k + 1) (updF g k v) := by
  obtain ⟨S, c, s, E, A, hn, hb⟩ := G
  have hkc : k ≤ c := by obtain ⟨⟨x, B⟩, _⟩ := A; exact B.nc
  refine (push_any 1 v w (by omega) F.fresh (E.keep F (.inr (Nat.zero_le _))) A (by omega) (int_ok S v hv)).mono fun e w' hh => ?_
  unfold LPushPost at hh
  rw [updF_one] at hh
  rcases hh with ⟨h, S', hL, ⟨h1, o', F2, E'⟩, hls⟩ | ⟨h, S', t', L2, hT2, hL, hLn, _, _, ⟨h1, o', F2, E'⟩, hls⟩ | ⟨h, hT2, _⟩
  · exact ⟨o', h1, (F.none 1 30).trans F2, S', c, s, E', hls, by rw [hL]; exact hn, by rw [hL]; exact hb⟩
  · obtain ⟨L', t, hT, hb2⟩ := GK.step hb hn (by omega)
    rw [hT] at hT2
    cases hT2
    exact ⟨o', h1, (F.none 1 30).trans F2, S', _, _, E', hls, by rw [hL, hLn]; exact hn, by rw [hL]; exact hb2⟩
  · obtain ⟨L', t, hT, hb2⟩ := GK.step hb hn (by omega)
    rw [hT] at hT2; cases hT2
theorem k_put {o : Own} {p a k : Nat} {g : Nat → Int} (i : Nat) (v : Int) (w0 w : World) (F : Fr 0 0 o o w0 w) (G : KL o w0 p a k g) (hi : i < k) (hv : in64 v) :
    Calls Tryz.prog 36 #[.pointer (some ⟨p, 0, none⟩), .int .i64 (a : Nat), .int .i64 (i : Nat), valV 1 v] w fun e w' => ∃ o', e = .returned (.int .i64 0) ∧ Fr 1 30 o o' w0 w' ∧ KL o' w' p a k (updF g i v) := by
  obtain ⟨S, c, s, E, A, hn, hb⟩ := G
  refine (ls_put i 1 v w (by omega) F.fresh (E.keep F (.inr (Nat.zero_le _))) A hi (int_ok S v hv)).mono fun e w' hh => ?_
  obtain ⟨S', hL, ⟨h1, o', F2, E'⟩, hls⟩ := hh
  rw [updF_one] at hls
  exact ⟨o', h1, (F.none 1 30).trans F2, S', c, s, E', hls, by rw [hL]; exact hn, by rw [hL]; exact hb⟩
theorem k_put_no {o : Own} {p a k : Nat} {g : Nat → Int} (i : Int) (v : Int) (w0 w : World) (F : Fr 0 0 o o w0 w) (G : KL o w0 p a k g) (hi : ¬ (0 ≤ i ∧ i < k)) (hv : in64 v) :
    Calls Tryz.prog 36 #[.pointer (some ⟨p, 0, none⟩), .int .i64 (a : Nat), .int .i64 i, valV 1 v] w fun e w' => e = .returned (.int .i64 6) ∧ Fr 0 0 o o w0 w' := by
  obtain ⟨S, c, s, E, A, hn, hb⟩ := G
  exact (ls_put_no i 1 v w F.fresh (E.keep F (.inr (Nat.zero_le _))) A hi (int_ok S v hv)).mono fun e w' hh => ⟨hh.1, F.trans hh.2⟩
theorem k_len {o : Own} {p a k : Nat} {g : Nat → Int} (w0 w : World) (F : Fr 0 0 o o w0 w) (G : KL o w0 p a k g) :
    Calls Tryz.prog 34 #[.pointer (some ⟨p, 0, none⟩), .int .i64 (a : Nat)] w fun e w' => e = .returned (.tuple #[.int .i64 (k : Nat), .int .i64 0]) ∧ Fr 0 0 o o w0 w' := by
  obtain ⟨S, c, s, E, A, hn, hb⟩ := G
  exact (ls_len w F.fresh (E.keep F (.inr (Nat.zero_le _))) A).mono fun e w' hh => ⟨hh.1, F.below hh.2⟩
theorem k_get {o : Own} {p a k : Nat} {g : Nat → Int} (i : Nat) (w0 w : World) (F : Fr 0 0 o o w0 w) (G : KL o w0 p a k g) (hi : i < k) :
    Calls Tryz.prog 35 #[.pointer (some ⟨p, 0, none⟩), .int .i64 (a : Nat), .int .i64 (i : Nat)] w fun e w' => e = .returned (.tuple #[valV 1 (g i), .int .i64 0]) ∧ Fr 0 0 o o w0 w' := by
  obtain ⟨S, c, s, E, A, hn, hb⟩ := G
  exact (ls_get i w F.fresh (E.keep F (.inr (Nat.zero_le _))) A hi).mono fun e w' hh => ⟨hh.1, F.below hh.2⟩
theorem k_get_no {o : Own} {p a k : Nat} {g : Nat → Int} (i : Int) (w0 w : World) (F : Fr 0 0 o o w0 w) (G : KL o w0 p a k g) (hi : ¬ (0 ≤ i ∧ i < k)) :
    Calls Tryz.prog 35 #[.pointer (some ⟨p, 0, none⟩), .int .i64 (a : Nat), .int .i64 i] w fun e w' => e = .returned (.tuple #[valV 0 0, .int .i64 6]) ∧ Fr 0 0 o o w0 w' := by
  obtain ⟨S, c, s, E, A, hn, hb⟩ := G
  exact (ls_get_no i w F.fresh (E.keep F (.inr (Nat.zero_le _))) A hi).mono fun e w' hh => ⟨hh.1, F.below hh.2⟩
theorem k_new {o : Own} {p : Nat} (g : Nat → Int) (w : World) (ho : Owned o w) (E : EngRep o w 1 p (newEng 100 100)) :
    Calls Tryz.prog 28 #[.pointer (some ⟨p, 0, none⟩)] w fun e w' => ∃ a o', e = .returned (.tuple #[.int .i64 (a : Nat), .int .i64 0]) ∧ Fr 1 30 o o' w w' ∧ KL o' w' p a 0 g :=
  (lready_new 100 100 w (by omega) (fun i => (1, g i)) ho E).mono fun e w' hh => by
    obtain ⟨a, o', h1, F, S, E', A, hn, ht⟩ := hh
    exact ⟨a, o', h1, F, S, _, _, E', A, hn, .inl ⟨rfl, ht⟩⟩
theorem in64_of_wf {n : Int} (h : (Lit.int .i64 n).wf = true) : in64 n := wf_i64 h
end Go.Proofs.YtlpklloagaccoaaGreat
namespace Go.Proofs.YtlpklloagaccoaaGreat
open Go.RowKit
set_option linter.unusedVariables false

theorem neqV (ak an bk bn : Int) (w : World) : (binOp .neq 30 (.agg #[.int .i64 ak, .int .i64 an]) (.agg #[.int .i64 bk, .int .i64 bn])).run Tryz.prog w = .ok (.bool (!(ak == bk && an == bn))) w := by
  have hp : Tryz.prog.stoodInHeld 30 = false := by kernel_rfl
  by_cases h1 : ak = bk <;> by_cases h2 : an = bn <;> simp [go_sem, part, h1, h2, hp]
set_option maxRecDepth 100000 in
theorem keeps_out (a0 a1 : Option Addr) (n c0 m c1 : Nat) (w : World) (h : 300 < n ∨ 100 < m) (h1 : n ≤ maxLen) (h2 : m ≤ maxLen) :
    Calls Tryz.prog 5 #[.slice a0 n c0, .slice a1 m c1] w fun e w' => e = .returned (.bool true) ∧ Below w.heap.size w w' := by
  have HA := Lib.hid (alive17 w)
  unfold maxLen at h1 h2
  have hn : 300 < (n : Int) ∨ (¬ 300 < (n : Int) ∧ 100 < (m : Int)) := by omega
  clear h
  rcases hn with h0 | ⟨h0, h3⟩
  all_goals
    go_enter Tryz.func5, Tryz.ntmps5
    go_wp2_with fail
    go_at_call 26
    refine HA.out.mono ?_
    rintro e w1 ⟨rfl, hb⟩
    have HB := Lib.hid hb
    clear hb
    go_wp2_with fail
    go_ret
    exact ⟨rfl, HB.out⟩
/-- What holds ahead of a round that puts. -/
def KeepAt (o : Own) (w : World) (p a n : Nat) (v : Value) : Prop := ∃ (g : Nat → Int) (W : List Int), KL o w p a n g ∧ LRow o w 40 v W ∧ W.length = n ∧ (∀ j, j < n → g j = W.getD j 0) ∧ ∀ j, j < n → in64 (W.getD j 0)
theorem getD_set_eq {l : List Int} {i j : Nat} {x : Int} (hi : i < l.length) : (l.set i x).getD j 0 = if j = i then x else l.getD j 0 := by
  by_cases h : j = i
  · subst h; simp [List.getD, hi]
  · simp [List.getD, h, List.getElem?_set_ne (Ne.symm h)]
set_option maxRecDepth 100000 in
set_option maxHeartbeats 2000000 in
theorem keeps_in (a0 a1 : Option Addr) (n c0 m c1 : Nat) (l q : List Int) (w : World) (hn : n ≤ 300) (hm : m ≤ 100) (R0 : RdS w w.heap.size .i64 a0 n l) (R1 : RdS w w.heap.size .i64 a1 m q) (h64 : ∀ j, j < n → in64 (l.getD j 0)) :
    Calls Tryz.prog 5 #[.slice a0 n c0, .slice a1 m c1] w fun e w' => e = .returned (.bool true) ∧ Below w.heap.size w w' := by
  have HA := Lib.hid (alive17 w)
  have HN := Lib.hid (fun (o : Own) (w1 : World) (ho : Owned o w1) => show Calls Tryz.prog 27 #[.int .i64 100, .int .i64 0, .int .i64 100] w1 (EngNew o w1 1 100 100) from eng_new 1 100 100 w1 ho (by omega) (by omega) (by omega) (by omega))
  have HR0 := Lib.hid R0
  have HR1 := Lib.hid R1
  have H64 := Lib.hid h64
  have hl : l.length = n := R0.1
  have HL := Lib.hid hl
  have h0 : ¬ 300 < (n : Int) := by omega
  have h1 : ¬ 100 < (m : Int) := by omega
  have heq := neqV
  clear hn hm R0 R1 h64 hl
  go_enter Tryz.func5, Tryz.ntmps5
  go_wp2_with fail
  go_at_call 26
  refine HA.out.mono ?_
  rintro e w1 ⟨rfl, hb⟩
  have HF1 := Lib.hid (LF.of_below hb)
  clear hb
  go_wp2_with fail
  go_at_call 27
  refine (HN.out _ _ HF1.out.fresh).mono ?_
  rintro e w2 ⟨p, o2, rfl, F2, E2⟩
  have HF2 := Lib.hid (HF1.out.fr F2 (by omega))
  have HE2 := Lib.hid E2
  clear F2 E2
  go_wp2_with fail
  go_at_call 28
  refine (k_new (fun j => l.getD j 0) _ HF2.out.fresh HE2.out).mono ?_
  rintro e w3 ⟨a, o3, rfl, F3, G3⟩
  have HF3 := Lib.hid (HF2.out.fr F3 (by omega))
  have HG3 := Lib.hid G3
  clear F3 G3
  go_wp2_with (at_builtin; refine wpList_append_row _ rfl _ _ _ rfl Tryz.underlying38 HF3.out.fresh 40 rfl (LRow.nil _ _ 40) rfl (HR0.out.lf HF3.out) (by have := HL.out; simp; omega) ?_; intro vw w4 o4 F4 R4; have HF4 := Lib.hid (HF3.out.fr F4 (by omega)); have HR4 := Lib.hid R4; have HG4 := Lib.hid (HG3.out.keep F4 (.inl (by omega))); clear F4 R4)
  go_loopw [10] (fun iv wr => ∃ (i : Nat) (o' : Own), i ≤ n ∧ iv = .int .i64 i ∧ LF w o' wr ∧ KL o' wr p a i (fun j => l.getD j 0) ∧ LRow o' wr 40 vw ([] ++ l)) (fun iv _ => n - (intOf iv).toNat)
  case atStart => exact ⟨0, o4, by omega, rfl, HF4.out, HG4.out, HR4.out⟩
  case round =>
    obtain ⟨i, oi, hi, rfl, Fi, Gi, Ri⟩ := hrel
    by_cases hin : i < n
    · have hin' : (i : Int) < (n : Int) := by omega
      obtain ⟨b0, f0, ha0, hb0, hc0⟩ := (HR0.out.lf Fi).at_ hin
      have HFi := Lib.hid Fi
      have HP := Lib.hid (fun (w5 : World) (F : Fr 0 0 oi oi wr w5) => k_push (l.getD i 0) wr w5 F Gi (by have := h0; omega) (H64.out i hin))
      have HUp := Lib.hid (show updF (fun j => l.getD j 0) i (l.getD i 0) = fun j => l.getD j 0 from by
        funext j
        unfold updF
        split
        · rename_i e; rw [e]
        · rfl)
      have HRi := Lib.hid Ri
      clear Fi Gi Ri
      subst ha0
      generalize l.getD i 0 = x at *
      go_wp2_with fail
      go_at_call 29
      refine (HP.out _ (by repeat (first | exact Fr.refl HFi.out.fresh | refine Fr.drew ?_ | refine Fr.alloc ?_ _))).mono ?_
      rintro e w5 ⟨o5, rfl, F5, G5⟩
      rw [HUp.out] at G5
      have HF5 := Lib.hid (HFi.out.fr F5 (by omega))
      have HG5 := Lib.hid G5
      have HR5 := Lib.hid (HRi.out.keep F5 (.inr (by omega)))
      clear F5 G5
      go_wp2_with (go_at_call 31; refine (num17 _ _).mono ?_; rintro e w' ⟨rfl, rfl⟩)
      exact ⟨⟨i + 1, o5, by omega, by go_num, HF5.out, HG5.out, HR5.out⟩, by simp [intOf]; omega⟩
    · have hin' : ¬ (i : Int) < (n : Int) := by omega
      obtain rfl : i = n := by omega
      have HFi := Lib.hid Fi
      have HKA := Lib.hid (show KeepAt oi wr p a i vw from ⟨_, _, Gi, Ri, by simpa using HL.out, fun j hj => by simp, fun j hj => by simpa using H64.out j hj⟩)
      clear Fi Gi Ri hin hi
      go_wp2_with fail
      go_loopw [11] (fun iv wr => ∃ (j : Nat) (o' : Own), j ≤ m ∧ iv = .int .i64 j ∧ LF w o' wr ∧ KeepAt o' wr p a i vw) (fun iv _ => m - (intOf iv).toNat)
      case atStart => exact ⟨0, oi, by omega, rfl, HFi.out, HKA.out⟩
      case round =>
        obtain ⟨j, oj, hj, rfl, Fj, g, W, Gj, Rj, hW, hg, hw⟩ := hrel
        by_cases hjm : j < m
        · have hjm' : (j : Int) < (m : Int) := by omega
          obtain ⟨b1, f1, ha1, hb1, hc1⟩ := (HR1.out.lf Fj).at_ hjm
          obtain ⟨k, hk, hk5⟩ := and_low (q.getD j 0) 511 (by omega)
          have hk' : bits .and .i64 (q.getD j 0) 511 = (k : Int) := hk
          have HFj := Lib.hid Fj
          have HGj := Lib.hid Gj
          have HRj := Lib.hid Rj
          have HW := Lib.hid hW
          have Hg := Lib.hid hg
          have Hw := Lib.hid hw
          subst ha1
          clear Fj Gj Rj hW hg hw hk hj
          generalize q.getD j 0 = x at *
          by_cases hki : k < i
          · have hki' : (k : Int) < (i : Int) := by omega
            have HP := Lib.hid (fun (w5 : World) (F : Fr 0 0 oj oj wr w5) => k_put k (j : Int) wr w5 F HGj.out hki (by unfold in64; have := h1; omega))
            go_wp2_with fail
            go_at_call 36
            refine (HP.out _ (by repeat (first | exact Fr.refl HFj.out.fresh | refine Fr.drew ?_ | refine Fr.alloc ?_ _))).mono ?_
            rintro e w5 ⟨o5, rfl, F5, G5⟩
            have HF5 := Lib.hid (HFj.out.fr F5 (by omega))
            have HG5 := Lib.hid G5
            have R5 := HRj.out.keep F5 (.inr (by omega))
            obtain ⟨gb, cap, hv, hcv, hfz, hset⟩ := R5.set HF5.out.fresh (i := k) (by rw [HW.out]; exact hki)
            rw [HW.out] at hv hcv
            have hcv := hcv k hki
            have HS := Lib.hid hset
            clear F5 G5 R5 hset
            subst hv
            go_wp2_with (go_at_call 31; refine (num17 _ _).mono ?_; rintro e w' ⟨rfl, rfl⟩)
            obtain ⟨F6, R6⟩ := HS.out (j : Int)
            refine ⟨⟨j + 1, o5, by omega, by go_num, HF5.out.fr F6 (by omega), updF g k (j : Int), W.set k (j : Int), HG5.out.keep F6 (.inl (by omega)), R6, by rw [List.length_set]; exact HW.out, fun z hz => ?_, fun z hz => ?_⟩, by simp [intOf]; omega⟩
            · rw [getD_set_eq (by rw [HW.out]; exact hki)]
              unfold updF
              split
              · rfl
              · exact Hg.out z hz
            · rw [getD_set_eq (by rw [HW.out]; exact hki)]
              split
              · unfold in64; have := h1; omega
              · exact Hw.out z hz
          · have hki' : ¬ (k : Int) < (i : Int) := by omega
            have HP := Lib.hid (fun (w5 : World) (F : Fr 0 0 oj oj wr w5) => k_put_no (k : Int) (j : Int) wr w5 F HGj.out (fun e => hki' e.2) (by unfold in64; have := h1; omega))
            go_wp2_with fail
            go_at_call 36
            refine (HP.out _ (by repeat (first | exact Fr.refl HFj.out.fresh | refine Fr.drew ?_ | refine Fr.alloc ?_ _))).mono ?_
            rintro e w5 ⟨rfl, F5⟩
            have HF5 := Lib.hid (HFj.out.fr F5 (by omega))
            have HKA5 := Lib.hid (show KeepAt oj w5 p a i vw from ⟨g, W, HGj.out.keep F5 (.inr (by omega)), HRj.out.keep F5 (.inr (by omega)), HW.out, Hg.out, Hw.out⟩)
            clear F5
            go_wp2_with (go_at_call 31; refine (num17 _ _).mono ?_; rintro e w' ⟨rfl, rfl⟩)
            exact ⟨⟨j + 1, oj, by omega, by go_num, HF5.out, HKA5.out⟩, by simp [intOf]; omega⟩
        · have hjm' : ¬ (j : Int) < (m : Int) := by omega
          obtain ⟨wo, rfl⟩ : ∃ wo : World, wo = wr := ⟨_, rfl⟩
          have HFj := Lib.hid Fj
          have HGj := Lib.hid Gj
          have HRj := Lib.hid Rj
          have HW := Lib.hid hW
          have HLn := Lib.hid (fun (w5 : World) (F : Fr 0 0 oj oj wo w5) => k_len wo w5 F HGj.out)
          have HGt := Lib.hid (fun (z : Nat) (hz : z < i) (w5 : World) (F : Fr 0 0 oj oj wo w5) => show Calls Tryz.prog 35 #[.pointer (some ⟨p, 0, none⟩), .int .i64 (a : Nat), .int .i64 (z : Nat)] w5 fun e w' => e = .returned (.tuple #[valV 1 (W.getD z 0), .int .i64 0]) ∧ Fr 0 0 oj oj wo w' from by
            rw [← hg z hz]; exact k_get z wo w5 F HGj.out hz)
          have HGn := Lib.hid (fun (w5 : World) (F : Fr 0 0 oj oj wo w5) => k_get_no (i : Int) wo w5 F HGj.out (fun e => absurd e.2 (Int.lt_irrefl _)))
          have heq2 : ((i : Int) != (i : Int)) = false := by simp
          clear Fj Gj Rj hW hg hw hj hjm
          go_wp2_with fail
          go_at_call 34
          refine (HLn.out _ (by repeat (first | exact Fr.refl HFj.out.fresh | refine Fr.drew ?_ | refine Fr.alloc ?_ _))).mono ?_
          rintro e w6 ⟨rfl, F6⟩
          have HF6 := Lib.hid F6
          clear F6
          go_wp2_with (go_at_call 31; refine (num17 _ _).mono ?_; rintro e w' ⟨rfl, rfl⟩)
          go_loopw [16] (fun iv wr => ∃ z : Nat, z ≤ i ∧ iv = .int .i64 z ∧ Fr 0 0 oj oj wo wr) (fun iv _ => i - (intOf iv).toNat)
          case atStart => exact ⟨0, by omega, rfl, HF6.out⟩
          case round =>
            obtain ⟨z, hz, rfl, Fz⟩ := hrel
            by_cases hzi : z < i
            · have hzi' : (z : Int) < (i : Int) := by omega
              have HGz := Lib.hid (HGt.out z hzi _ Fz)
              clear Fz
              go_wp2_with fail
              go_at_call 35
              refine HGz.out.mono ?_
              rintro e w7 ⟨rfl, F7⟩
              have HF7 := Lib.hid F7
              clear F7
              obtain ⟨A7, cap7, hv7, R7⟩ := (HRj.out.keep HF7.out (.inr (by omega))).rd
              rw [HW.out] at hv7 R7
              obtain ⟨b7, f7, hA7, hb7, hc7⟩ := R7.at_ hzi
              subst hA7
              subst hv7
              clear R7
              generalize W.getD z 0 = x at *
              have hx0 : w7.heap.size < (w7.alloc (vX 1 x)).heap.size := by simp
              go_wp2_with fail
              go_quiet ((go_at_call 31; exact Calls.quiet_of_same ((num17 _ _).mono fun _ _ h => ⟨h.1, h.2.symm⟩)))
              go_wp2_with fail
              exact ⟨⟨z + 1, by omega, by go_num, (HF7.out.alloc _).drewN nq⟩, by simp [intOf]; omega⟩
            · have hzi' : ¬ (z : Int) < (i : Int) := by omega
              obtain rfl : z = i := by omega
              have HFz := Lib.hid Fz
              clear Fz
              go_wp2_with fail
              go_at_call 35
              refine (HGn.out _ HFz.out).mono ?_
              rintro e w7 ⟨rfl, F7⟩
              have HF7 := Lib.hid (HFj.out.fr F7 (by omega))
              clear F7
              go_wp2_with (go_at_call 31; refine (num17 _ _).mono ?_; rintro e w' ⟨rfl, rfl⟩)
              go_ret
              exact ⟨rfl, (HF7.out.alloc _).tob⟩
theorem keeps_walk (a0 : Option Addr) (n c0 : Nat) (z0 : List Int) (a1 : Option Addr) (m c1 : Nat) (z1 : List Int) (w : World) (w0 : InSl .i64 w a0 n c0 z0) (w1 : InSl .i64 w a1 m c1 z1) :
    Calls Tryz.prog 5 #[.slice a0 n c0, .slice a1 m c1] w fun e w' => e = .returned (.bool true) ∧ Below w.heap.size w w' := by
  by_cases h : 300 < n ∨ 100 < m
  · exact keeps_out a0 a1 n c0 m c1 w h w0.len_le w1.len_le
  · exact keeps_in a0 a1 n c0 m c1 _ _ w (by omega) (by omega) w0.rd.1 w1.rd.1 (fun j hj => in64_of_wf (w0.rd.2 j hj))
end Go.Proofs.YtlpklloagaccoaaGreat
