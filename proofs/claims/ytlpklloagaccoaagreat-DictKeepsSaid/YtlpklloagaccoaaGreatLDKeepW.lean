/- The walk of DictKeeps. No condition but on how the slices lie. -/
import Derived.Test.YtlpklloagaccoaaGreatLDKeep
import Derived.Test.YtlpklloagaccoaaGreatDelF
import Derived.StillTailTactics
import Derived.Outline
namespace Go.Proofs.YtlpklloagaccoaaGreat
open Go.RowKit
set_option linter.unusedVariables false

theorem neqK (k x : Int) (w : World) : (binOp .neq 30 (.agg #[.int .i64 k, .int .i64 x]) (.agg #[.int .i64 k, .int .i64 x])).run Tryz.prog w = .ok (.bool false) w := by
  have hp : Tryz.prog.stoodInHeld 30 = false := by kernel_rfl
  simp [go_sem, part, hp]
set_option maxRecDepth 100000 in
theorem dkeep_out (a1 a2 : Option Addr) (m c1 m2 c2 : Nat) (w : World) (h : 150 < m ∨ m2 < m) (l1 : m ≤ maxLen) (l2 : m2 ≤ maxLen) :
    Calls Tryz.prog 8 #[.slice a1 m c1, .slice a2 m2 c2] w fun e w' => e = .returned (.bool true) ∧ Below w.heap.size w w' := by
  have HA := Lib.hid (alive18 w)
  unfold maxLen at l1 l2
  have hn : 150 < (m : Int) ∨ (¬ 150 < (m : Int) ∧ (m2 : Int) < (m : Int)) := by omega
  clear h
  rcases hn with h0 | ⟨h0, h3⟩
  all_goals
    go_enter Tryz.func8, Tryz.ntmps8
    go_wp2_with fail
    go_at_call 40
    refine HA.out.mono ?_
    rintro e w1 ⟨rfl, hb⟩
    have HB := Lib.hid hb
    clear hb
    go_wp2_with fail
    go_ret
    exact ⟨rfl, HB.out⟩
/-- Where a key was seen among the first j. -/
def SeenK (K : List Int) (x : Int) (j : Nat) (v : Value) : Prop := (v = .int .i64 (-1) ∧ ∀ t, t < j → K.getD t 0 ≠ x) ∨ ∃ t : Nat, t < j ∧ v = .int .i64 (t : Nat) ∧ K.getD t 0 = x
set_option maxRecDepth 100000 in
set_option maxHeartbeats 4000000 in
theorem dkeep_in (a1 a2 : Option Addr) (m c1 m2 c2 : Nat) (l1 l2 : List Int) (w : World) (hm : m ≤ 150) (hm2 : m ≤ m2) (hm3 : m2 ≤ maxLen) (R1 : RdS w w.heap.size .i64 a1 m l1) (R2 : RdS w w.heap.size .i64 a2 m2 l2) (W1 : ∀ i, i < m → in64 (l1.getD i 0)) (W2 : ∀ i, i < m2 → in64 (l2.getD i 0)) :
    Calls Tryz.prog 8 #[.slice a1 m c1, .slice a2 m2 c2] w fun e w' => e = .returned (.bool true) ∧ Below w.heap.size w w' := by
  have HA := Lib.hid (alive18 w)
  have HN := Lib.hid (fun (o : Own) (w1 : World) (ho : Owned o w1) => show Calls Tryz.prog 27 #[.int .i64 100, .int .i64 0, .int .i64 1000] w1 (EngNew o w1 1 100 1000) from eng_new 1 100 1000 w1 ho (by omega) (by omega) (by omega) (by omega))
  have HR1 := Lib.hid R1
  have HR2 := Lib.hid R2
  have HW1 := Lib.hid W1
  have HW2 := Lib.hid W2
  unfold maxLen at hm3
  have HM := Lib.hid (And.intro hm hm2)
  have h1 : ¬ 150 < (m : Int) := by omega
  have h2 : ¬ (m2 : Int) < (m : Int) := by omega
  have h3 : (m2 : Int) ≤ 9223372036854775807 := by omega
  clear R1 R2 W1 W2 hm hm2 hm3
  go_enter Tryz.func8, Tryz.ntmps8
  go_wp2_with fail
  go_at_call 40
  refine HA.out.mono ?_
  rintro e w1 ⟨rfl, hb⟩
  have HF1 := Lib.hid (LF.of_below hb)
  clear hb
  go_wp2_with fail
  go_at_call 27
  refine (HN.out _ _ HF1.out.fresh).mono ?_
  rintro e w2 ⟨p, o2, rfl, F2, E2⟩
  have HF2 := Lib.hid (HF1.out.fr F2 (by omega))
  have HE2 := Lib.hid E2
  clear F2 E2
  go_wp2_with fail
  go_at_call 41
  refine (d_new 100 1000 (fun _ => (0, 0)) (fun _ => (0, 0)) w2 (by omega) HF2.out.fresh HE2.out).mono ?_
  rintro e w3 ⟨a, o3, rfl, F3, G3⟩
  have HF3 := Lib.hid (HF2.out.fr F3 (by omega))
  have HA3 := Lib.hid (show KI o3 w3 p a [] [] from ⟨_, _, G3, rfl, fun j hj => absurd hj (Nat.not_lt_zero _), fun i j _ hj => absurd hj (Nat.not_lt_zero _)⟩)
  clear F3 G3 HE2
  go_wp2_with (go_at_call 43; refine (num18 _ _).mono ?_; rintro e w' ⟨rfl, rfl⟩)
  go_loopw [9, 10, 11] (fun kv vv iv wr => ∃ (i : Nat) (o' : Own) (K V : List Int), i ≤ m ∧ K.length ≤ i ∧ iv = .int .i64 i ∧ LF w o' wr ∧ KI o' wr p a K V ∧ LRow o' wr 40 kv K ∧ LRow o' wr 41 vv V) (fun _ _ iv _ => m - (intOf iv).toNat)
  case atStart => exact ⟨0, o3, [], [], by omega, Nat.le_refl _, rfl, HF3.out, HA3.out, LRow.nil _ _ 40, LRow.nil _ _ 41⟩
  case round =>
    obtain ⟨i, oi, K, V, hi, hKi, rfl, Fi, Ai, Ki, Vi⟩ := hrel
    obtain ⟨Ak, ck, rfl, _⟩ := Ki.rd
    obtain ⟨Av, cv, rfl, _⟩ := Vi.rd
    have HFi := Lib.hid Fi
    have HAi := Lib.hid Ai
    have HKi := Lib.hid Ki
    have HVi := Lib.hid Vi
    have HVL := Lib.hid (show V.length = K.length from let ⟨_, _, _, h, _⟩ := Ai; h)
    clear Fi Ai Ki Vi
    have hKm : (K.length : Int) ≤ 150 := by omega
    by_cases hin : i < m
    · have hin' : (i : Int) < (m : Int) := by omega
      have hi2 : (i : Int) < (m2 : Int) := by have := HM.out; omega
      have HI := Lib.hid (And.intro hKi hin)
      clear hKi hin hi
      obtain ⟨x, hx⟩ : ∃ x, x = l1.getD i 0 := ⟨_, rfl⟩
      obtain ⟨y, hy⟩ : ∃ y, y = l2.getD i 0 := ⟨_, rfl⟩
      have HX := Lib.hid hx
      have HY := Lib.hid hy
      have HXY := Lib.hid (show in64 x ∧ in64 y from ⟨by rw [hx]; exact HW1.out i HI.out.2, by rw [hy]; exact HW2.out i (Nat.lt_of_lt_of_le HI.out.2 HM.out.2)⟩)
      clear hx hy
      go_wp2_with fail
      obtain ⟨wi, rfl⟩ : ∃ wi : World, wi = wr := ⟨_, rfl⟩
      go_loopw [12, 13] (fun av jv wz => ∃ (j : Nat), j ≤ K.length ∧ jv = .int .i64 j ∧ SeenK K x j av ∧ Fr 0 0 oi oi wi wz) (fun _ jv _ => K.length - (intOf jv).toNat)
      case atStart => exact ⟨0, by omega, rfl, .inl ⟨rfl, fun t ht => absurd ht (Nat.not_lt_zero _)⟩, Fr.refl HFi.out.fresh⟩
      case round =>
        obtain ⟨j, hj, rfl, hS, Fj⟩ := hrel
        have HFj := Lib.hid Fj
        have HS := Lib.hid hS
        by_cases hjk : j < K.length
        · have hjk' : (j : Int) < (K.length : Int) := by omega
          have HJ := Lib.hid hjk
          obtain ⟨gk, hgk, hgl, hgc, _, _⟩ := (HKi.out.keep Fj (.inr (by omega))).at_ hjk
          obtain ⟨bk, fk, hk1, hbk, hck⟩ := (HR1.out.lf (HFi.out.fr Fj (by omega))).at_ HI.out.2
          have hbk2 : bk < wr.heap.size := Nat.lt_of_lt_of_le hbk (HFi.out.fr Fj (by omega)).tob.size
          cases hgk
          cases hk1
          rw [← HX.out] at hck
          clear Fj hS hj hjk
          by_cases he : K.getD j 0 = x
          · have HE := Lib.hid he
            rw [he] at hgc
            clear he
            go_wp2_with fail
            go_quiet (fail)
            go_wp2_with fail
            exact ⟨⟨j + 1, HJ.out, by go_num, .inr ⟨j, by omega, rfl, HE.out⟩, HFj.out.drewN nq⟩, by have := HJ.out; simp [intOf]; omega⟩
          · have hne : (K.getD j 0 == x) = false := by simpa using he
            have HE := Lib.hid he
            clear he
            generalize hz : K.getD j 0 = z at *
            have HZ := Lib.hid hz
            clear hz
            go_wp2_with fail
            go_quiet (fail)
            go_wp2_with fail
            refine ⟨⟨j + 1, HJ.out, by go_num, ?_, HFj.out.drewN nq⟩, by have := HJ.out; simp [intOf]; omega⟩
            rcases HS.out with ⟨e1, h⟩ | ⟨t, h1, h2, h3⟩
            · refine .inl ⟨e1, fun t ht => ?_⟩
              by_cases e : t = j
              · subst e; rw [HZ.out]; exact HE.out
              · exact h t (by omega)
            · exact .inr ⟨t, by omega, h2, h3⟩
        · have hjk' : ¬ (j : Int) < (K.length : Int) := by omega
          obtain rfl : j = K.length := by omega
          have HF8 := Lib.hid (HFi.out.fr Fj (by omega))
          have HA8 := Lib.hid (HAi.out.keep Fj (.inr (by omega)))
          have HK8 := Lib.hid (HKi.out.keep Fj (.inr (by omega)))
          have HV8 := Lib.hid (HVi.out.keep Fj (.inr (by omega)))
          clear Fj HFj hj hjk
          obtain ⟨w8, rfl⟩ : ∃ w8 : World, w8 = wr := ⟨_, rfl⟩
          rcases hS with ⟨rfl, hS⟩ | ⟨t, ht, rfl, hS⟩
          · have HHit := Lib.hid (show HitK K V x y (K ++ [x]) (V ++ [y]) from .inr ⟨hS, rfl, rfl⟩)
            clear hS HS
            obtain ⟨bk, fk, hk1, hbk, hck⟩ := (HR1.out.lf HF8.out).at_ HI.out.2
            have hbk2 : bk < w8.heap.size := Nat.lt_of_lt_of_le hbk HF8.out.tob.size
            cases hk1
            rw [← HX.out] at hck
            go_wp2_with (first
              | (at_builtin; refine wpList_append_row _ rfl _ _ _ rfl Tryz.underlying38 (own := oi) (by exact (HF8.out.alloc _).fresh) 40 rfl (HK8.out.keep (lo := 0) (hi := 0) ((Fr.refl HF8.out.fresh).alloc _) (.inr (by omega))) rfl (RdS.one _ .i64 _ x (by simp)) (by have := HI.out; have := HM.out; omega) ?_; intro v6 w6 o6 F6 R6; obtain ⟨A6, c6, hv6, _⟩ := R6.rd; rw [List.length_append] at hv6; cases hv6; have HF6 := Lib.hid ((HF8.out.alloc _).fr F6 (by omega)); have HK6 := Lib.hid R6; have HV6 := Lib.hid ((HV8.out.keep ((Fr.refl (lo := 0) (hi := 0) HF8.out.fresh).alloc _) (.inr (by omega))).keep F6 (.inr (by omega))); have HA6 := Lib.hid ((HA8.out.keep ((Fr.refl (lo := 0) (hi := 0) HF8.out.fresh).alloc _) (.inr (by omega))).keep F6 (.inl (by omega))); clear F6 R6 hck)
              | (at_builtin; go_loud (refine wpList_append_row _ rfl _ _ _ rfl Tryz.underlying38 (own := o6) (by exact (HF6.out.alloc _).fresh) 41 rfl (HV6.out.keep (lo := 0) (hi := 0) ((Fr.refl HF6.out.fresh).alloc _) (.inr (by omega))) rfl (RdS.one _ .i64 _ 0 (by simp)) (by have := HI.out; have := HM.out; have := HVL.out; omega) ?_; intro v7 w7 o7 F7 R7; obtain ⟨g7, c7, hv7, hc7, hf7, hset7⟩ := R7.set F7.fresh (i := K.length) (by rw [List.length_append, HVL.out]; simp); rw [List.length_append, HVL.out] at hv7; cases hv7; have HF7 := Lib.hid ((HF6.out.alloc _).fr F7 (by omega)); have HK7 := Lib.hid ((HK6.out.keep ((Fr.refl (lo := 0) (hi := 0) HF6.out.fresh).alloc _) (.inr (by omega))).keep F7 (.inl (by omega))); have HA7 := Lib.hid ((HA6.out.keep ((Fr.refl (lo := 0) (hi := 0) HF6.out.fresh).alloc _) (.inr (by omega))).keep F7 (.inl (by omega))); have hc7' := hc7 K.length (by rw [List.length_append, HVL.out]; simp); have HS7 := Lib.hid hset7; have hl7 : g7 < w7.heap.size := World.block_lt_of_cell? _ _ hc7'; obtain ⟨bv, fv, hv1, hbv, hcv⟩ := (HR2.out.lf HF7.out).at_ (Nat.lt_of_lt_of_le HI.out.2 HM.out.2); cases hv1; rw [← HY.out] at hcv; have hbv2 : bv < w7.heap.size := Nat.lt_of_lt_of_le hbv HF7.out.tob.size; clear F7 R7 hc7 hset7)))
            have hS9 := HS7.out y
            have happ : (V ++ [(0 : Int)]).set K.length y = V ++ [y] := by rw [← HVL.out]; exact set_app_at V 0 y
            rw [happ] at hS9
            have HF9 := Lib.hid (HF7.out.fr hS9.1 (by omega))
            have HA9 := Lib.hid (HA7.out.keep hS9.1 (.inl (by omega)))
            have HK9 := Lib.hid (HK7.out.keep hS9.1 (.inl (by omega)))
            have HV9 := Lib.hid hS9.2
            clear hS9 happ hcv hc7' hf7 HS7
            generalize w7.setCell ⟨g7, K.length, none⟩ (.int .i64 y) = w9 at *
            obtain ⟨bk', fk', hk1', hbk', hck'⟩ := (HR1.out.lf HF9.out).at_ HI.out.2
            obtain ⟨bv', fv', hv1', hbv', hcv'⟩ := (HR2.out.lf HF9.out).at_ (Nat.lt_of_lt_of_le HI.out.2 HM.out.2)
            cases hk1'
            cases hv1'
            rw [← HX.out] at hck'
            rw [← HY.out] at hcv'
            have hbk3 := Nat.lt_of_lt_of_le hbk' HF9.out.tob.size
            have hbv3 := Nat.lt_of_lt_of_le hbv' HF9.out.tob.size
            go_still_tail 12, (by kernel_rfl)
            change wpList _ _ _ _ _ w9.drew
            have HF10 := Lib.hid HF9.out.drew
            have HA10 := Lib.hid (HA9.out.keep (lo := 0) (hi := 0) ((Fr.refl HF9.out.fresh).drew) (.inr (by omega)))
            have HK10 := Lib.hid (HK9.out.keep (lo := 0) (hi := 0) ((Fr.refl HF9.out.fresh).drew) (.inr (by omega)))
            have HV10 := Lib.hid (HV9.out.keep (lo := 0) (hi := 0) ((Fr.refl HF9.out.fresh).drew) (.inr (by omega)))
            clear hck' hcv'
            generalize w9.drew = w10 at *
            go_wp2_with fail
            go_at_call 44
            refine (kp_put x y _ _ w10 _ (Fr.refl HF10.out.fresh) HA10.out HXY.out.1 HXY.out.2 (by have := HI.out; have := HM.out; omega) HHit.out).mono ?_
            rintro e w11 ⟨o11, rfl, F11, A11⟩
            have HF11 := Lib.hid (HF10.out.fr F11 (by omega))
            have HA11 := Lib.hid A11
            have HK11 := Lib.hid (HK10.out.keep F11 (.inr (by omega)))
            have HV11 := Lib.hid (HV10.out.keep F11 (.inr (by omega)))
            clear F11 A11
            go_wp2_with (go_at_call 43; refine (num18 _ _).mono ?_; rintro e w' ⟨rfl, rfl⟩)
            exact ⟨⟨i + 1, o11, _, _, by have := HI.out; omega, by have := HI.out; rw [List.length_append]; simp; omega, by go_num, HF11.out, HA11.out, HK11.out, HV11.out⟩, by have := HI.out; simp [intOf]; omega⟩
          · have HHit := Lib.hid (show HitK K V x y K (V.set t y) from .inl ⟨t, ht, hS, rfl, rfl⟩)
            have HT := Lib.hid ht
            obtain ⟨g7, c7, hv7, hc7, hf7, hset7⟩ := HV8.out.set HF8.out.fresh (i := t) (by rw [HVL.out]; exact ht)
            cases hv7
            have hc7' := hc7 t (by rw [HVL.out]; exact ht)
            have hl7 : g7 < w8.heap.size := World.block_lt_of_cell? _ _ hc7'
            have hS9 := hset7 y
            have htV : (t : Int) < (V.length : Int) := by rw [HVL.out]; omega
            obtain ⟨bv, fv, hv1, hbv, hcv⟩ := (HR2.out.lf HF8.out).at_ (Nat.lt_of_lt_of_le HI.out.2 HM.out.2)
            cases hv1
            rw [← HY.out] at hcv
            have hbv2 : bv < w8.heap.size := Nat.lt_of_lt_of_le hbv HF8.out.tob.size
            have HF9 := Lib.hid (HF8.out.fr hS9.1 (by omega))
            have HA9 := Lib.hid (HA8.out.keep hS9.1 (.inl (by omega)))
            have HK9 := Lib.hid (HK8.out.keep hS9.1 (.inl (by omega)))
            have HV9 := Lib.hid hS9.2
            clear hS hS9 hc7 hset7 ht HS
            go_wp2_with fail
            clear hcv hc7' hf7
            generalize w8.setCell ⟨g7, t, none⟩ (.int .i64 y) = w9 at *
            obtain ⟨bk', fk', hk1', hbk', hck'⟩ := (HR1.out.lf HF9.out).at_ HI.out.2
            obtain ⟨bv', fv', hv1', hbv', hcv'⟩ := (HR2.out.lf HF9.out).at_ (Nat.lt_of_lt_of_le HI.out.2 HM.out.2)
            cases hk1'
            cases hv1'
            rw [← HX.out] at hck'
            rw [← HY.out] at hcv'
            have hbk3 := Nat.lt_of_lt_of_le hbk' HF9.out.tob.size
            have hbv3 := Nat.lt_of_lt_of_le hbv' HF9.out.tob.size
            go_still_tail 12, (by kernel_rfl)
            change wpList _ _ _ _ _ w9.drew
            have HF10 := Lib.hid HF9.out.drew
            have HA10 := Lib.hid (HA9.out.keep (lo := 0) (hi := 0) ((Fr.refl HF9.out.fresh).drew) (.inr (by omega)))
            have HK10 := Lib.hid (HK9.out.keep (lo := 0) (hi := 0) ((Fr.refl HF9.out.fresh).drew) (.inr (by omega)))
            have HV10 := Lib.hid (HV9.out.keep (lo := 0) (hi := 0) ((Fr.refl HF9.out.fresh).drew) (.inr (by omega)))
            clear hck' hcv'
            generalize w9.drew = w10 at *
            go_wp2_with fail
            go_at_call 44
            refine (kp_put x y _ _ w10 _ (Fr.refl HF10.out.fresh) HA10.out HXY.out.1 HXY.out.2 (by have := HI.out; have := HM.out; omega) HHit.out).mono ?_
            rintro e w11 ⟨o11, rfl, F11, A11⟩
            have HF11 := Lib.hid (HF10.out.fr F11 (by omega))
            have HA11 := Lib.hid A11
            have HK11 := Lib.hid (HK10.out.keep F11 (.inr (by omega)))
            have HV11 := Lib.hid (HV10.out.keep F11 (.inr (by omega)))
            clear F11 A11
            go_wp2_with (go_at_call 43; refine (num18 _ _).mono ?_; rintro e w' ⟨rfl, rfl⟩)
            exact ⟨⟨i + 1, o11, _, _, by have := HI.out; omega, by have := HI.out; omega, by go_num, HF11.out, HA11.out, HK11.out, HV11.out⟩, by have := HI.out; simp [intOf]; omega⟩
    · have hin' : ¬ (i : Int) < (m : Int) := by omega
      obtain rfl : i = m := by omega
      clear hin hi
      go_wp2_with fail
      go_at_call 45
      refine (kp_keys wr _ (Fr.refl HFi.out.fresh) HAi.out).mono ?_
      rintro e w5 ⟨A5, c5, rfl, F5, R5⟩
      have HF5 := Lib.hid (HFi.out.fr F5 (by omega))
      have HA5 := Lib.hid (HAi.out.keep F5 (.inr (by omega)))
      have HK5 := Lib.hid (HKi.out.keep F5 (.inr (by omega)))
      have HV5 := Lib.hid (HVi.out.keep F5 (.inr (by omega)))
      have HR5 := Lib.hid R5
      clear F5 R5
      go_wp2_with fail
      go_at_call 46
      refine (kp_len w5 _ (Fr.refl HF5.out.fresh) HA5.out).mono ?_
      rintro e w6 ⟨rfl, F6⟩
      have HF6 := Lib.hid F6
      clear F6
      go_wp2_with (go_at_call 43; refine (num18 _ _).mono ?_; rintro e w' ⟨rfl, rfl⟩)
      go_loopw [18] (fun jv wz => ∃ (j : Nat), j ≤ K.length ∧ jv = .int .i64 j ∧ Fr 0 0 oi oi w5 wz) (fun jv _ => K.length - (intOf jv).toNat)
      case atStart => exact ⟨0, by omega, rfl, HF6.out⟩
      case round =>
        obtain ⟨j, hj, rfl, Fj⟩ := hrel
        have HFj := Lib.hid Fj
        by_cases hjk : j < K.length
        · have hjk' : (j : Int) < (K.length : Int) := by omega
          have HJ := Lib.hid hjk
          obtain ⟨g, hg, hgl, hgc⟩ := HR5.out.keep Fj (by omega)
          obtain ⟨hg0, hg1⟩ := hgc j hjk
          rw [Nat.mul_comm] at hg0 hg1
          cases hg
          clear Fj hj hjk hgc
          have HZ := Lib.hid (show K.getD j 0 = K.getD j 0 from rfl)
          go_wp2_with fail
          go_at_call 42
          refine (kp_get (K.getD j 0) w5 _ (by repeat (first | exact HFj.out | refine Fr.drew ?_ | refine Fr.alloc ?_ _)) HA5.out HJ.out rfl).mono ?_
          rintro e w7 ⟨rfl, F7⟩
          have HF7 := Lib.hid F7
          obtain ⟨g', hg', hgl7, hgc7⟩ := HR5.out.keep F7 (by have := HJ.out; omega)
          obtain ⟨hg07, hg17⟩ := hgc7 j HJ.out
          rw [Nat.mul_comm] at hg07 hg17
          cases hg'
          obtain ⟨gk, hgk, hgkl, hgkc, _, _⟩ := (HK5.out.keep F7 (.inr (by omega))).at_ HJ.out
          obtain ⟨gv, hgv, hgvl, hgvc, _, _⟩ := (HV5.out.keep F7 (.inr (by omega))).at_ (show j < V.length by rw [HVL.out]; exact HJ.out)
          cases hgk
          cases hgv
          have hjV : (j : Int) < (V.length : Int) := by rw [HVL.out]; omega
          clear F7 hg0 hg1 hgl hgc7
          generalize K.getD j 0 = z at *
          generalize V.getD j 0 = u at *
          have hq := neqK 1 z
          have hx0 : w7.heap.size < (w7.alloc (vX 1 u)).heap.size := by simp
          go_wp2_with fail
          go_quiet ((go_at_call 43; exact Calls.quiet_of_same ((num18 _ _).mono fun _ _ h => ⟨h.1, h.2.symm⟩)))
          go_wp2_with fail
          exact ⟨⟨j + 1, HJ.out, by go_num, (HF7.out.alloc _).drewN nq⟩, by have := HJ.out; simp [intOf]; omega⟩
        · have hjk' : ¬ (j : Int) < (K.length : Int) := by omega
          obtain rfl : j = K.length := by omega
          clear Fj hj hjk
          go_wp2_with fail
          go_ret
          exact ⟨rfl, (HF5.out.fr HFj.out (by omega)).tob⟩
theorem dkeep_walk (a1 : Option Addr) (m c1 : Nat) (z1 : List Int) (a2 : Option Addr) (m2 c2 : Nat) (z2 : List Int) (w : World) (w1 : InSl .i64 w a1 m c1 z1) (w2 : InSl .i64 w a2 m2 c2 z2) :
    Calls Tryz.prog 8 #[.slice a1 m c1, .slice a2 m2 c2] w fun e w' => e = .returned (.bool true) ∧ Below w.heap.size w w' := by
  by_cases h : 150 < m ∨ m2 < m
  · exact dkeep_out a1 a2 m c1 m2 c2 w h w1.len_le w2.len_le
  · exact dkeep_in a1 a2 m c1 m2 c2 _ _ w (by omega) (by omega) w2.len_le w1.rd.1 w2.rd.1 (fun j hj => wf_i64 (w1.rd.2 j hj)) (fun j hj => wf_i64 (w2.rd.2 j hj))
end Go.Proofs.YtlpklloagaccoaaGreat
