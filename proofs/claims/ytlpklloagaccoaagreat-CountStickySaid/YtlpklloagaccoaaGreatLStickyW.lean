/- The walk of CountSticky. No condition. -/
import Derived.Test.YtlpklloagaccoaaGreatLSticky
import Derived.Outline
namespace Go.Proofs.YtlpklloagaccoaaGreat
open Go.RowKit
set_option linter.unusedVariables false

set_option maxRecDepth 100000 in
theorem sticky_out (n m : Int) (w : World) (h : n < 1 ∨ 300 < n ∨ m < 0 ∨ 20 < m) :
    Calls Tryz.prog 13 #[.int .i64 n, .int .i64 m] w fun e w' => e = .returned (.bool true) ∧ Below w.heap.size w w' := by
  have HA := Lib.hid (alive12 w)
  have hn : n < 1 ∨ (¬ n < 1 ∧ 300 < n) ∨ (¬ n < 1 ∧ ¬ 300 < n ∧ m < 0) ∨ (¬ n < 1 ∧ ¬ 300 < n ∧ ¬ m < 0 ∧ 20 < m) := by omega
  clear h
  rcases hn with h0 | ⟨h0, h3⟩ | ⟨h0, h3, h4⟩ | ⟨h0, h3, h4, h5⟩
  all_goals
    go_enter Tryz.func13, Tryz.ntmps13
    go_wp2_with fail
    go_at_call 65
    refine HA.out.mono ?_
    rintro e w1 ⟨rfl, hb⟩
    have HB := Lib.hid hb
    clear hb
    go_wp2_with fail
    go_ret
    exact ⟨rfl, HB.out⟩
def UAt (o : Own) (w : World) (p : Nat) (x b : Int) (L N i : Nat) : Prop := ∃ S, EngRep o w 1 p S ∧ StkU S x b L N i
def DAt (o : Own) (w : World) (p : Nat) (x b : Int) (L N : Nat) : Prop := ∃ S, EngRep o w 1 p S ∧ StkD S x b L N
theorem st_make {o : Own} {p L : Nat} (w0 w1 : World) (F : Fr 0 0 o o w0 w1) (E : EngRep o w0 1 p (newEng 40 L)) :
    Calls Tryz.prog 66 #[.pointer (some ⟨p, 0, none⟩), .int .i64 5, .int .i64 1, .int .i64 0] w1 fun e w' => ∃ (a : Nat) (L' : Al) (o' : Own), e = .returned (.tuple #[.int .i64 (a : Nat), .int .i64 0]) ∧ Fr 1 30 o o' w0 w' ∧ EngRep o' w' 1 p (makeA (newEng 40 L) L' a 5 1 0) ∧ a < 262144 ∧ L'.ok = true ∧ L'.n = 40 ∧ L'.t ≤ 2 := by
  obtain ⟨L', a, hT, ht2, _⟩ := tookL_room (newEng 40 L).L (wordsN 1 0) (by show 1 + (4 / 64 + 1) ≤ 40; omega)
  refine (rmake 5 1 0 5 1 0 rfl rfl rfl L' a w1 F.fresh (E.keep F (.inr (Nat.zero_le _))) rfl (by omega) (by omega) (by omega) hT).mono fun e w' hh => ?_
  obtain ⟨⟨h1, o', F', E'⟩, h2, _, h4, h5, h6⟩ := hh
  have ht3 : L'.t ≤ 1 + (4 / 64 + 1) := ht2
  exact ⟨_, _, o', h1, (F.none 1 30).trans F', E', h4, h5, h6, by omega⟩
theorem st_store {o : Own} {p L N a : Nat} {L1 : Al} (ni : Int) (hni : ni = (N : Nat)) (w0 w1 : World) (F : Fr 0 0 o o w0 w1) (E : EngRep o w0 1 p (makeA (newEng 40 L) L1 a 5 1 0)) (h1 : 1 ≤ L) (hN : N ≤ 320) (ha : a < 262144) (hok : L1.ok = true) (hn : L1.n = 40) (ht : L1.t ≤ 2) :
    Calls Tryz.prog 66 #[.pointer (some ⟨p, 0, none⟩), .int .i64 4, .int .i64 ni, .int .i64 0] w1 fun e w' => ∃ (b : Int) (o' : Own), e = .returned (.tuple #[.int .i64 b, .int .i64 0]) ∧ Fr 1 30 o o' w0 w' ∧ UAt o' w' p (a : Int) b L N 0 := by
  have hw : wordsN N 0 ≤ 2048 := by unfold wordsN; omega
  obtain ⟨L', b, hT, ht2, _⟩ := tookL_room (makeA (newEng 40 L) L1 a 5 1 0).L (wordsN N 0) (by show L1.t + (wordsN N 0 / 64 + 1) ≤ L1.n; omega)
  refine (rmake 4 N 0 4 ni 0 rfl hni rfl L' b w1 F.fresh (E.keep F (.inr (Nat.zero_le _))) hok (by omega) (by omega) (by omega) hT).mono fun e w' hh => ?_
  obtain ⟨⟨h1', o', F', E'⟩, h2, _, h4, h5, h6⟩ := hh
  exact ⟨_, o', h1', (F.none 1 30).trans F', _, E', StkU.first h1 h2 ha⟩
theorem st_count {o : Own} {p : Nat} {x b : Int} {L N i : Nat} (y : Int) (s : Bool) (w0 w1 : World) (F : Fr 0 0 o o w0 w1) (A : UAt o w0 p x b L N i) (hy : y = (min i L : Nat)) (hs : s = decide (L ≤ i)) :
    Calls Tryz.prog 39 #[.pointer (some ⟨p, 0, none⟩), .int .i64 x] w1 fun e w' => e = .returned (.tuple #[.int .i64 y, .bool s]) ∧ Fr 0 0 o o w0 w' := by
  subst hy hs
  obtain ⟨S, E, M⟩ := A
  obtain ⟨z, hz⟩ := M.obx
  exact (rcount _ z w1 F.fresh (E.keep F (.inr (Nat.zero_le _))) hz).mono fun e w' hh => ⟨by rw [hh.1, M.tot, M.st], F.below hh.2⟩
theorem st_set {o : Own} {p : Nat} {x b : Int} {L N i : Nat} (w0 w1 : World) (F : Fr 0 0 o o w0 w1) (A : UAt o w0 p x b L N i) (hL : 1 ≤ L) (hi : i < N) :
    Calls Tryz.prog 68 #[.pointer (some ⟨p, 0, none⟩), .int .i64 b, .int .i64 (i : Nat), .agg #[.int .i64 3, .int .i64 x]] w1 fun e w' => ∃ o', e = .returned (.int .i64 0) ∧ Fr 1 30 o o' w0 w' ∧ UAt o' w' p x b L N (i + 1) := by
  obtain ⟨S, E, M⟩ := A
  obtain ⟨y, hy, h3, h4, h5⟩ := M.obb
  refine (rset b (i : Nat) y i 3 x w1 (by omega) F.fresh (E.keep F (.inr (Nat.zero_le _))) hy rfl (by omega) (by omega) M.small (fun _ => M.obx) (fun _ h => absurd h (h5 i (Nat.le_refl _)))).mono fun e w' hh => ?_
  obtain ⟨h1, o', F', E'⟩ := hh
  exact ⟨o', h1, (F.none 1 30).trans F', _, E', M.set hL hy h3 h4 h5⟩
theorem st_drop {o : Own} {p : Nat} {x b : Int} {L N i : Nat} (w0 w1 : World) (F : Fr 0 0 o o w0 w1) (A : DAt o w0 p x b L N) (hL : 1 ≤ L) (hi : i < N) (hne : x ≠ b) :
    Calls Tryz.prog 68 #[.pointer (some ⟨p, 0, none⟩), .int .i64 b, .int .i64 (i : Nat), .agg #[.int .i64 0, .int .i64 0]] w1 fun e w' => ∃ o', e = .returned (.int .i64 0) ∧ Fr 1 30 o o' w0 w' ∧ DAt o' w' p x b L N := by
  obtain ⟨S, E, M⟩ := A
  obtain ⟨y, hy, h3, h4⟩ := M.obb
  refine (rset b (i : Nat) y i 0 0 w1 (by omega) F.fresh (E.keep F (.inr (Nat.zero_le _))) hy rfl (by omega) (by omega) (by unfold in64; omega) (fun e => by cases e) (fun _ h => by rw [h4 i h]; exact M.obx)).mono fun e w' hh => ?_
  obtain ⟨h1, o', F', E'⟩ := hh
  exact ⟨o', h1, (F.none 1 30).trans F', _, E', M.set hL hne hy h3 h4 i⟩
theorem st_last {o : Own} {p : Nat} {x b : Int} {L N : Nat} (w0 w1 : World) (F : Fr 0 0 o o w0 w1) (A : DAt o w0 p x b L N) :
    Calls Tryz.prog 39 #[.pointer (some ⟨p, 0, none⟩), .int .i64 x] w1 fun e w' => e = .returned (.tuple #[.int .i64 (L : Nat), .bool true]) ∧ Fr 0 0 o o w0 w' := by
  obtain ⟨S, E, M⟩ := A
  obtain ⟨z, hz⟩ := M.obx
  exact (rcount _ z w1 F.fresh (E.keep F (.inr (Nat.zero_le _))) hz).mono fun e w' hh => ⟨by rw [hh.1, M.tot, M.st], F.below hh.2⟩
theorem st_zeros {o : Own} {p : Nat} {x b : Int} {L N : Nat} (w0 w1 : World) (F : Fr 0 0 o o w0 w1) (A : DAt o w0 p x b L N) :
    Calls Tryz.prog 69 #[.pointer (some ⟨p, 0, none⟩)] w1 fun e w' => ∃ k f cap, e = .returned (.slice (some ⟨k, f, none⟩) 1 cap) ∧ w'.cell? ⟨k, f, none⟩ = some (.int .i64 b) ∧ Fr 0 0 o o w0 w' := by
  obtain ⟨S, E, M⟩ := A
  refine (rzeros w1 F.fresh (E.keep F (.inr (Nat.zero_le _)))).mono fun e w' hh => ?_
  obtain ⟨v, xs, h1, h2, h3, h4⟩ := hh
  obtain rfl := h2.one b M.Z
  obtain ⟨A, cap, hv, hR⟩ := h4.row.rd
  obtain ⟨k, f, hA, _, hc⟩ := hR.at_ (i := 0) (by show 0 < 1; omega)
  exact ⟨k, f, cap, by rw [h1, hv, hA]; rfl, hc, F.trans h3⟩
set_option maxRecDepth 100000 in
set_option maxHeartbeats 2000000 in
theorem sticky_in (L M : Nat) (w : World) (hL1 : 1 ≤ L) (hL3 : L ≤ 300) (hM2 : M ≤ 20) :
    Calls Tryz.prog 13 #[.int .i64 (L : Nat), .int .i64 (M : Nat)] w fun e w' => e = .returned (.bool true) ∧ Below w.heap.size w w' := by
  have HA := Lib.hid (alive12 w)
  have HN := Lib.hid (fun (o : Own) (w1 : World) (ho : Owned o w1) => show Calls Tryz.prog 27 #[.int .i64 40, .int .i64 0, .int .i64 (L : Nat)] w1 (EngNew o w1 1 40 L) from eng_new 1 40 L w1 ho (by omega) (by omega) (by omega) (by omega))
  have HL := Lib.hid (And.intro hL1 (And.intro hL3 hM2))
  have h0 : ¬ (L : Int) < 1 := by omega
  have h1 : ¬ 300 < (L : Int) := by omega
  have h2 : ¬ (M : Int) < 0 := by omega
  have h3 : ¬ 20 < (M : Int) := by omega
  clear hL1 hL3 hM2
  go_enter Tryz.func13, Tryz.ntmps13
  go_wp2_with fail
  go_at_call 65
  refine HA.out.mono ?_
  rintro e w1 ⟨rfl, hb⟩
  have HF1 := Lib.hid (LF.of_below hb)
  clear hb
  go_wp2_with fail
  go_at_call 27
  refine (HN.out _ _ HF1.out.fresh).mono ?_
  rintro e w2 ⟨p, o2, rfl, F2, E2⟩
  have HF2 := Lib.hid (HF1.out.fr F2 (by omega))
  have HE2 := Lib.hid E2
  clear F2 E2
  go_wp2_with fail
  go_at_call 66
  refine (st_make w2 _ (by repeat (first | exact Fr.refl HF2.out.fresh | refine Fr.drew ?_ | refine Fr.alloc ?_ _)) HE2.out).mono ?_
  rintro e w3 ⟨a, L1, o3, rfl, F3, E3, a3, k1, k2, k3⟩
  have HF3 := Lib.hid (HF2.out.fr F3 (by omega))
  have HE3 := Lib.hid E3
  have HK3 := Lib.hid (And.intro a3 (And.intro k1 (And.intro k2 k3)))
  clear F3 E3 a3 k1 k2 k3
  go_wp2_with fail
  go_at_call 66
  refine (st_store (N := L + M) _ (by go_num) w3 _ (by repeat (first | exact Fr.refl HF3.out.fresh | refine Fr.drew ?_ | refine Fr.alloc ?_ _)) HE3.out HL.out.1 (by have := HL.out; omega) HK3.out.1 HK3.out.2.1 HK3.out.2.2.1 HK3.out.2.2.2).mono ?_
  rintro e w4 ⟨b, o4, rfl, F4, A4⟩
  have HF4 := Lib.hid (HF3.out.fr F4 (by omega))
  have HA4 := Lib.hid A4
  have HNE := Lib.hid (show ((a : Nat) : Int) ≠ b from let ⟨S, E, M⟩ := A4; M.ne)
  clear F4 A4
  have HX := Lib.hid (show ∃ x : Int, x = ((a : Nat) : Int) from ⟨_, rfl⟩)
  generalize ((a : Nat) : Int) = x at *
  go_wp2_with (go_at_call 67; refine (num12 _ _).mono ?_; rintro e w' ⟨rfl, rfl⟩)
  go_loopw [11] (fun iv wr => ∃ (i : Nat) (o' : Own), i ≤ L + M ∧ iv = .int .i64 i ∧ LF w o' wr ∧ UAt o' wr p x b L (L + M) i) (fun iv _ => L + M - (intOf iv).toNat)
  case atStart => exact ⟨0, o4, by omega, rfl, HF4.out, HA4.out⟩
  case round =>
    obtain ⟨i, oi, hi, rfl, Fi, Ai⟩ := hrel
    have HFi := Lib.hid Fi
    have HAi := Lib.hid Ai
    clear Fi Ai
    by_cases hin : i < L + M
    · have hin' : (i : Int) < (L : Int) + (M : Int) := by omega
      have HI := Lib.hid hin
      clear hi hin
      have HS := Lib.hid (fun (w6 w5 : World) (F : Fr 0 0 oi oi wr w5) => st_set wr w5 F HAi.out HL.out.1 HI.out)
      have hc : ∃ (y : Int) (s : Bool), y = (min i L : Nat) ∧ s = decide (L ≤ i) := ⟨_, _, rfl, rfl⟩
      obtain ⟨y, s, hy, hs⟩ := hc
      have HC := Lib.hid (fun (w5 : World) (F : Fr 0 0 oi oi wr w5) => st_count y s wr w5 F HAi.out hy hs)
      by_cases hgt : (L : Int) < (i : Int)
      · obtain rfl : y = (L : Int) := by omega
        obtain rfl : s = true := by rw [hs]; exact decide_eq_true (by omega)
        have hge : (L : Int) ≤ (i : Int) := by omega
        clear hy hs
        go_wp2_with (first
          | (go_at_call 39; refine (HC.out _ (by repeat (first | exact Fr.refl HFi.out.fresh | refine Fr.drew ?_ | refine Fr.alloc ?_ _))).mono ?_; rintro e w5 ⟨rfl, F5⟩; have HF5 := Lib.hid F5; clear F5)
          | (go_at_call 68; refine (HS.out wr _ (by repeat (first | exact HF5.out | refine Fr.drew ?_ | refine Fr.alloc ?_ _))).mono ?_; rintro e w6 ⟨o6, rfl, F6, A6⟩; have HF6 := Lib.hid (HFi.out.fr F6 (by omega)); have HA6 := Lib.hid A6; clear F6 A6))
        exact ⟨⟨i + 1, o6, by have := HI.out; omega, by go_num, HF6.out, HA6.out⟩, by have := HI.out; simp [intOf]; omega⟩
      · obtain rfl : y = (i : Int) := by omega
        clear hy
        by_cases hge : (L : Int) ≤ (i : Int)
        · obtain rfl : s = true := by rw [hs]; exact decide_eq_true (by omega)
          clear hs
          go_wp2_with (first
            | (go_at_call 39; refine (HC.out _ (by repeat (first | exact Fr.refl HFi.out.fresh | refine Fr.drew ?_ | refine Fr.alloc ?_ _))).mono ?_; rintro e w5 ⟨rfl, F5⟩; have HF5 := Lib.hid F5; clear F5)
            | (go_at_call 68; refine (HS.out wr _ (by repeat (first | exact HF5.out | refine Fr.drew ?_ | refine Fr.alloc ?_ _))).mono ?_; rintro e w6 ⟨o6, rfl, F6, A6⟩; have HF6 := Lib.hid (HFi.out.fr F6 (by omega)); have HA6 := Lib.hid A6; clear F6 A6))
          exact ⟨⟨i + 1, o6, by have := HI.out; omega, by go_num, HF6.out, HA6.out⟩, by have := HI.out; simp [intOf]; omega⟩
        · obtain rfl : s = false := by rw [hs]; exact decide_eq_false (by omega)
          clear hs
          go_wp2_with (first
            | (go_at_call 39; refine (HC.out _ (by repeat (first | exact Fr.refl HFi.out.fresh | refine Fr.drew ?_ | refine Fr.alloc ?_ _))).mono ?_; rintro e w5 ⟨rfl, F5⟩; have HF5 := Lib.hid F5; clear F5)
            | (go_at_call 68; refine (HS.out wr _ (by repeat (first | exact HF5.out | refine Fr.drew ?_ | refine Fr.alloc ?_ _))).mono ?_; rintro e w6 ⟨o6, rfl, F6, A6⟩; have HF6 := Lib.hid (HFi.out.fr F6 (by omega)); have HA6 := Lib.hid A6; clear F6 A6))
          exact ⟨⟨i + 1, o6, by have := HI.out; omega, by go_num, HF6.out, HA6.out⟩, by have := HI.out; simp [intOf]; omega⟩
    · have hin' : ¬ (i : Int) < (L : Int) + (M : Int) := by omega
      obtain rfl : i = L + M := by omega
      have HDi := Lib.hid (show DAt oi wr p x b L (L + M) from let ⟨S, E, A⟩ := HAi.out; ⟨S, E, A.down (by omega) (by have := HL.out; omega)⟩)
      clear hi hin hin'
      have hin' : ¬ (((L + M : Nat) : Int)) < (L : Int) + (M : Int) := by omega
      go_wp2_with fail
      go_loopw [15] (fun jv wr => ∃ (j : Nat) (o' : Own), j ≤ L + M ∧ jv = .int .i64 j ∧ LF w o' wr ∧ DAt o' wr p x b L (L + M)) (fun jv _ => L + M - (intOf jv).toNat)
      case atStart => exact ⟨0, oi, by omega, rfl, HFi.out, HDi.out⟩
      case round =>
        obtain ⟨j, oj, hj, rfl, Fj, Aj⟩ := hrel
        have HFj := Lib.hid Fj
        have HAj := Lib.hid Aj
        clear Fj Aj
        by_cases hjn : j < L + M
        · have hjn' : (j : Int) < (L : Int) + (M : Int) := by omega
          have HJ := Lib.hid hjn
          clear hj hjn
          have HS := Lib.hid (fun (w5 : World) (F : Fr 0 0 oj oj wr w5) => st_drop wr w5 F HAj.out HL.out.1 HJ.out HNE.out)
          go_wp2_with fail
          go_at_call 68
          refine (HS.out _ (by repeat (first | exact Fr.refl HFj.out.fresh | refine Fr.drew ?_ | refine Fr.alloc ?_ _))).mono ?_
          rintro e w6 ⟨o6, rfl, F6, A6⟩
          have HF6 := Lib.hid (HFj.out.fr F6 (by omega))
          have HA6 := Lib.hid A6
          clear F6 A6
          go_wp2_with fail
          exact ⟨⟨j + 1, o6, by have := HJ.out; omega, by go_num, HF6.out, HA6.out⟩, by have := HJ.out; simp [intOf]; omega⟩
        · have hjn' : ¬ (j : Int) < (L : Int) + (M : Int) := by omega
          clear hj hjn
          go_wp2_with fail
          go_at_call 39
          refine (st_last wr _ (by repeat (first | exact Fr.refl HFj.out.fresh | refine Fr.drew ?_ | refine Fr.alloc ?_ _)) HAj.out).mono ?_
          rintro e w7 ⟨rfl, F7⟩
          have HF7 := Lib.hid F7
          clear F7
          go_wp2_with fail
          go_at_call 69
          refine (st_zeros wr _ (by repeat (first | exact HF7.out | refine Fr.drew ?_ | refine Fr.alloc ?_ _)) HAj.out).mono ?_
          rintro e w8 ⟨k8, f8, cap8, rfl, hc8, F8⟩
          have HF8 := Lib.hid (HFj.out.fr F8 (by omega))
          clear F8
          go_wp2_with fail
          go_ret
          exact ⟨rfl, HF8.out.tob⟩
theorem sticky_walk (n m : Int) (w : World) : Calls Tryz.prog 13 #[.int .i64 n, .int .i64 m] w fun e w' => e = .returned (.bool true) ∧ Below w.heap.size w w' := by
  by_cases h : n < 1 ∨ 300 < n ∨ m < 0 ∨ 20 < m
  · exact sticky_out n m w h
  · obtain ⟨k, rfl⟩ := Int.eq_ofNat_of_zero_le (show 0 ≤ n by omega)
    obtain ⟨l, rfl⟩ := Int.eq_ofNat_of_zero_le (show 0 ≤ m by omega)
    exact sticky_in k l w (by omega) (by omega) (by omega)
end Go.Proofs.YtlpklloagaccoaaGreat
