/- A list that is pushed till there is no memory. Conditions: the engine has 3 to 12 pages. The walk of ListFull. No condition. -/
import Derived.Test.YtlpklloagaccoaaGreatLaw17
import Derived.Outline
namespace Go.Proofs.YtlpklloagaccoaaGreat
open Go.RowKit
set_option linter.unusedVariables false

/-- Cells that a list's store can have. -/
def GC (c : Nat) : Prop := c = 0 ∨ c = 4 ∨ c = 8 ∨ c = 16 ∨ c = 32 ∨ c = 64 ∨ c = 128 ∨ c = 256
theorem GC.le {c : Nat} (h : GC c) : c ≤ 256 := by unfold GC at h; omega
theorem took_far {L : Al} {n : Nat} (h32 : 32 ≤ n) (h : L.n < n / 64 + 1) : tookL L n = none := by
  have h5 : classN n = 5 := by
    unfold classN
    rw [if_neg (by omega), if_neg (by omega), if_neg (by omega), if_neg (by omega), if_neg (by omega)]
  unfold tookL
  rw [if_pos h5, if_neg (by omega)]
theorem GC.step {L : Al} {c : Nat} (h : GC c) (hn : L.n ≤ 12) {x : Al × Nat} (hT : tookL L (wordsN (moreN c 4) 0) = some x) : GC (moreN c 4) := by
  rcases h with rfl | rfl | rfl | rfl | rfl | rfl | rfl | rfl
  · exact .inr (.inl (by decide))
  · exact .inr (.inr (.inl (by decide)))
  · exact .inr (.inr (.inr (.inl (by decide))))
  · exact .inr (.inr (.inr (.inr (.inl (by decide)))))
  · exact .inr (.inr (.inr (.inr (.inr (.inl (by decide))))))
  · exact .inr (.inr (.inr (.inr (.inr (.inr (.inl (by decide)))))))
  · exact .inr (.inr (.inr (.inr (.inr (.inr (.inr (by decide)))))))
  · rw [took_far (by decide) (Nat.lt_of_le_of_lt hn (by decide))] at hT
    cases hT
/-- The list of the law: it holds 0, 1, .. -/
structure FL (o : Own) (w : World) (p a k c : Nat) (s : Int) (full : Bool) : Prop where
  kc : k ≤ c
  gc : GC c
  ex : ∃ S f, EngRep o w 1 p S ∧ LS S (a : Int) f k c s ∧ S.L.n ≤ 12 ∧ (∀ i : Nat, i < k → f i = (1, (i : Int))) ∧ (full = true → k = c ∧ tookL S.L (wordsN (moreN c 4) 0) = none)
theorem FL.keep {o : Own} {w w1 : World} {p a k c : Nat} {s : Int} {b : Bool} (G : FL o w p a k c s b) (F : Fr 0 0 o o w w1) : FL o w1 p a k c s b := by
  obtain ⟨h, g, S, f, E, A⟩ := G
  exact ⟨h, g, S, f, E.keep F (.inr (Nat.zero_le _)), A⟩
def FPush (o : Own) (w0 : World) (p a k : Nat) (e : Ending) (w' : World) : Prop :=
  (e = .returned (.int .i64 0) ∧ ∃ o' c s, Fr 1 30 o o' w0 w' ∧ FL o' w' p a (k + 1) c s false) ∨ (e = .returned (.int .i64 2) ∧ ∃ o' c s, Fr 1 30 o o' w0 w' ∧ FL o' w' p a k c s true)
theorem f_push {o : Own} {p a k c : Nat} {s : Int} (w0 w : World) (ho : Owned o w0) (F : Fr 0 0 o o w0 w) (G : FL o w0 p a k c s false) :
    Calls Tryz.prog 29 #[.pointer (some ⟨p, 0, none⟩), .int .i64 (a : Nat), valV 1 (k : Nat)] w (FPush o w0 p a k) := by
  obtain ⟨hkc, hgc, S, f, E, A, hn, hf, _⟩ := G
  have hc := hgc.le
  refine (push_any 1 (k : Int) w (by omega) F.fresh (E.keep F (.inr (Nat.zero_le _))) A (by omega) (int_ok S k (by unfold in64; omega))).mono fun e w' hh => ?_
  have hf2 : ∀ i : Nat, i < k + 1 → updF f k ((1 : Nat), (k : Int)) i = (1, (i : Int)) := fun i hi => by
    unfold updF
    split
    · rename_i e; rw [e]
    · exact hf i (by omega)
  rcases hh with ⟨h, S', hL, ⟨h1, o', F2, E'⟩, hls⟩ | ⟨h, S', t', L2, hT2, hL, hLn, _, _, ⟨h1, o', F2, E'⟩, hls⟩ | ⟨h, hT2, h1, o', F2, E'⟩
  · exact .inl ⟨h1, o', c, s, (F.none 1 30).trans F2, by omega, hgc, S', _, E', hls, by rw [hL]; exact hn, hf2, fun e => by cases e⟩
  · refine .inl ⟨h1, o', _, _, (F.none 1 30).trans F2, ?_, hgc.step hn hT2, S', _, E', hls, by rw [hL, hLn]; exact hn, hf2, fun e => by cases e⟩
    unfold moreN; split <;> omega
  · exact .inr ⟨h1, o', c, s, (F.none 1 30).trans F2, hkc, hgc, S, _, E', A, hn, hf, fun _ => ⟨h, hT2⟩⟩
theorem f_full {o : Own} {p a k c : Nat} {s : Int} (w0 w : World) (ho : Owned o w0) (F : Fr 0 0 o o w0 w) (G : FL o w0 p a k c s true) :
    Calls Tryz.prog 29 #[.pointer (some ⟨p, 0, none⟩), .int .i64 (a : Nat), valV 0 0] w fun e w' => e = .returned (.int .i64 2) ∧ ∃ o', Fr 1 30 o o' w0 w' := by
  obtain ⟨hkc, hgc, S, f, E, A, hn, hf, hfull⟩ := G
  obtain ⟨hk, hT⟩ := hfull rfl
  have hc := hgc.le
  refine (push_any 0 0 w (by omega) F.fresh (E.keep F (.inr (Nat.zero_le _))) A (by omega) ⟨by omega, by unfold in64; omega, fun e => by omega⟩).mono fun e w' hh => ?_
  rcases hh with ⟨h, _⟩ | ⟨h, S', t', L2, hT2, _⟩ | ⟨h, hT2, h1, o', F2, E'⟩
  · omega
  · rw [hT] at hT2; cases hT2
  · exact ⟨h1, o', (F.none 1 30).trans F2⟩
theorem f_len {o : Own} {p a k c : Nat} {s : Int} {b : Bool} (w0 w : World) (F : Fr 0 0 o o w0 w) (G : FL o w0 p a k c s b) :
    Calls Tryz.prog 34 #[.pointer (some ⟨p, 0, none⟩), .int .i64 (a : Nat)] w fun e w' => e = .returned (.tuple #[.int .i64 (k : Nat), .int .i64 0]) ∧ Fr 0 0 o o w0 w' := by
  obtain ⟨hkc, hgc, S, f, E, A, hn, hf, hfull⟩ := G
  exact (ls_len w F.fresh (E.keep F (.inr (Nat.zero_le _))) A).mono fun e w' hh => ⟨hh.1, F.below hh.2⟩
theorem f_get {o : Own} {p a k c : Nat} {s : Int} {b : Bool} (i : Nat) (w0 w : World) (F : Fr 0 0 o o w0 w) (G : FL o w0 p a k c s b) (hi : i < k) :
    Calls Tryz.prog 35 #[.pointer (some ⟨p, 0, none⟩), .int .i64 (a : Nat), .int .i64 (i : Nat)] w fun e w' => e = .returned (.tuple #[valV 1 (i : Nat), .int .i64 0]) ∧ Fr 0 0 o o w0 w' := by
  obtain ⟨hkc, hgc, S, f, E, A, hn, hf, hfull⟩ := G
  refine (ls_get i w F.fresh (E.keep F (.inr (Nat.zero_le _))) A hi).mono fun e w' hh => ⟨?_, F.below hh.2⟩
  rw [hh.1, hf i hi]; rfl
theorem f_new {o : Own} {p : Nat} (n : Nat) (w : World) (hn : 3 ≤ n ∧ n ≤ 12) (ho : Owned o w) (E : EngRep o w 1 p (newEng n 100)) :
    Calls Tryz.prog 28 #[.pointer (some ⟨p, 0, none⟩)] w fun e w' => ∃ a o', e = .returned (.tuple #[.int .i64 (a : Nat), .int .i64 0]) ∧ Fr 1 30 o o' w w' ∧ FL o' w' p a 0 0 0 false :=
  (lready_new n 100 w (by omega) (fun _ => (0, 0)) ho E).mono fun e w' hh => by
    obtain ⟨a, o', h1, F, S, E', A, hn2, ht⟩ := hh
    exact ⟨a, o', h1, F, by omega, .inl rfl, S, _, E', A, by omega, fun i hi => by omega, fun e => by cases e⟩
end Go.Proofs.YtlpklloagaccoaaGreat
namespace Go.Proofs.YtlpklloagaccoaaGreat
open Go.RowKit
set_option linter.unusedVariables false

def errV (b : Bool) : Value := .int .i64 (bif b then 2 else 0)
set_option maxRecDepth 100000 in
theorem full_out (n : Int) (w : World) (h : ¬ (3 ≤ n ∧ n ≤ 12)) : Calls Tryz.prog 4 #[.int .i64 n] w fun e w' => e = .returned (.bool true) ∧ Below w.heap.size w w' := by
  have HA := Lib.hid (alive17 w)
  have hn : n < 3 ∨ (¬ n < 3 ∧ 12 < n) := by omega
  rcases hn with h0 | ⟨h0, h1⟩
  all_goals
    go_enter Tryz.func4, Tryz.ntmps4
    go_wp2_with fail
    go_at_call 26
    refine HA.out.mono ?_
    rintro e w1 ⟨rfl, hb⟩
    have HB := Lib.hid hb
    clear hb
    go_wp2_with fail
    go_ret
    exact ⟨rfl, HB.out⟩
set_option maxRecDepth 100000 in
set_option maxHeartbeats 1000000 in
theorem full_in (n : Nat) (w : World) (h : 3 ≤ n ∧ n ≤ 12) : Calls Tryz.prog 4 #[.int .i64 (n : Nat)] w fun e w' => e = .returned (.bool true) ∧ Below w.heap.size w w' := by
  have HA := Lib.hid (alive17 w)
  have HN := Lib.hid (fun (w1 : World) => show Calls Tryz.prog 27 #[.int .i64 (n : Nat), .int .i64 0, .int .i64 100] w1 (EngNew (fun _ => 0) w1 1 n 100) from eng_new 1 n 100 w1 (Owned.zero w1) (by omega) (by omega) (by omega) (by omega))
  have HH := Lib.hid h
  have h0 : ¬ (n : Int) < 3 := by omega
  have h1 : ¬ 12 < (n : Int) := by omega
  clear h
  go_enter Tryz.func4, Tryz.ntmps4
  go_wp2_with fail
  go_at_call 26
  refine HA.out.mono ?_
  rintro e w1 ⟨rfl, hb⟩
  have HB := Lib.hid hb
  clear hb
  go_wp2_with fail
  go_at_call 27
  refine (HN.out _).mono ?_
  rintro e w2 ⟨p, o2, rfl, F2, E2⟩
  have HF2 := Lib.hid F2
  have HE2 := Lib.hid E2
  clear F2 E2
  go_wp2_with fail
  go_at_call 28
  refine (f_new n _ HH.out HF2.out.fresh HE2.out).mono ?_
  rintro e w3 ⟨a, o3, rfl, F3, G3⟩
  have HF3 := Lib.hid (HF2.out.trans F3)
  have HG3 := Lib.hid G3
  clear F3 G3
  go_wp2_with fail
  go_loopw [6, 7] (fun fv nv wr => ∃ (k c : Nat) (o' : Own) (s : Int) (b : Bool), nv = .int .i64 k ∧ fv = errV b ∧ Fr 1 30 (fun _ => 0) o' w wr ∧ FL o' wr p a k c s b) (fun fv nv _ => 3 * (3000 - (intOf nv).toNat) + (2 - (intOf fv).toNat))
  case atStart => exact ⟨0, 0, o3, 0, false, rfl, rfl, (((Fr.refl (lo := 1) (hi := 30) (Owned.zero w)).below HB.out).trans HF3.out), HG3.out⟩
  case round =>
    obtain ⟨k, c, oi, s, b, rfl, hf, Fi, Gi⟩ := hrel
    have hk3 : (k : Int) < 3000 := by have h1 := Gi.kc; have h2 := Gi.gc.le; omega
    have HK3 := Lib.hid hk3
    cases b with
    | false =>
      obtain rfl : _ = Value.int .i64 0 := hf
      have HP := Lib.hid (fun (w5 : World) (F : Fr 0 0 oi oi wr w5) => f_push wr w5 Fi.fresh F Gi)
      have HFi := Lib.hid Fi
      clear Fi Gi
      go_wp2_with (go_at_call 31; refine (num17 _ _).mono ?_; rintro e w' ⟨rfl, rfl⟩)
      go_at_call 29
      refine (HP.out _ (by repeat (first | exact Fr.refl HFi.out.fresh | refine Fr.drew ?_ | refine Fr.alloc ?_ _))).mono ?_
      rintro e w5 (⟨rfl, o5, c5, s5, F5, G5⟩ | ⟨rfl, o5, c5, s5, F5, G5⟩)
      · have HF5 := Lib.hid (HFi.out.trans F5)
        have HG5 := Lib.hid G5
        clear F5 G5
        go_wp2_with (go_at_call 31; refine (num17 _ _).mono ?_; rintro e w' ⟨rfl, rfl⟩)
        exact ⟨⟨k + 1, c5, o5, s5, false, by go_num, rfl, HF5.out, HG5.out⟩, by have := HK3.out; simp [intOf]; omega⟩
      · have HF5 := Lib.hid (HFi.out.trans F5)
        have HG5 := Lib.hid G5
        clear F5 G5
        go_wp2_with (go_at_call 31; refine (num17 _ _).mono ?_; rintro e w' ⟨rfl, rfl⟩)
        exact ⟨⟨k, c5, o5, s5, true, rfl, rfl, HF5.out, HG5.out⟩, by have := HK3.out; simp [intOf]⟩
    | true =>
      obtain rfl : _ = Value.int .i64 2 := hf
      have HL := Lib.hid (fun (w5 : World) (F : Fr 0 0 oi oi wr w5) => f_len wr w5 F Gi)
      have HGt := Lib.hid (fun (i : Nat) (w5 : World) (F : Fr 0 0 oi oi wr w5) (hi : i < k) => f_get i wr w5 F Gi hi)
      have HFu := Lib.hid (fun (w5 : World) (F : Fr 0 0 oi oi wr w5) => f_full wr w5 Fi.fresh F Gi)
      have HFi := Lib.hid Fi
      clear Fi Gi
      go_wp2_with (go_at_call 31; refine (num17 _ _).mono ?_; rintro e w' ⟨rfl, rfl⟩)
      go_at_call 34
      refine (HL.out _ (by repeat (first | exact Fr.refl HFi.out.fresh | refine Fr.drew ?_ | refine Fr.alloc ?_ _))).mono ?_
      rintro e w6 ⟨rfl, F6⟩
      have HF6 := Lib.hid F6
      clear F6
      go_wp2_with fail
      go_loopw [10] (fun iv wr2 => ∃ i : Nat, i ≤ k ∧ iv = .int .i64 i ∧ Fr 0 0 oi oi wr wr2) (fun iv _ => k - (intOf iv).toNat)
      case atStart => exact ⟨0, by omega, rfl, HF6.out⟩
      case round =>
        obtain ⟨i, hi, rfl, F7⟩ := hrel
        by_cases hik : i < k
        · have hik' : (i : Int) < (k : Int) := by omega
          have HGi := Lib.hid (HGt.out i _ F7 hik)
          clear F7
          go_wp2_with fail
          go_at_call 35
          refine HGi.out.mono ?_
          rintro e w8 ⟨rfl, F8⟩
          have HF8 := Lib.hid F8
          clear F8
          go_wp2_with (go_at_call 31; refine (num17 _ _).mono ?_; rintro e w' ⟨rfl, rfl⟩)
          exact ⟨⟨i + 1, by omega, by go_num, by repeat (first | exact HF8.out | refine Fr.drew ?_ | refine Fr.alloc ?_ _)⟩, by simp [intOf]; omega⟩
        · have hik' : ¬ (i : Int) < (k : Int) := by omega
          have HF7 := Lib.hid F7
          clear F7
          go_wp2_with (first
            | (go_at_call 31; refine (num17 _ _).mono ?_; rintro e w' ⟨rfl, rfl⟩)
            | (go_at_call 29; refine (HFu.out _ (by repeat (first | exact HF7.out | refine Fr.drew ?_ | refine Fr.alloc ?_ _))).mono ?_; rintro e w9 ⟨rfl, o9, F9⟩; have HF9 := Lib.hid F9; clear F9))
          go_ret
          exact ⟨rfl, Fr.to_below (by omega) (HFi.out.trans HF9.out)⟩
theorem full_walk (n : Int) (w : World) : Calls Tryz.prog 4 #[.int .i64 n] w fun e w' => e = .returned (.bool true) ∧ Below w.heap.size w w' := by
  by_cases h : 3 ≤ n ∧ n ≤ 12
  · obtain ⟨k, rfl⟩ := Int.eq_ofNat_of_zero_le (show 0 ≤ n by omega)
    exact full_in k w (by omega)
  · exact full_out n w h
end Go.Proofs.YtlpklloagaccoaaGreat
