/- The walk of TextLimits. No condition. -/
import Derived.Test.YtlpklloagaccoaaGreatLaw16
import Derived.Test.YtlpklloagaccoaaGreatAll
import Derived.Test.YtlpklloagaccoaaGreatLaw12
import Derived.Outline
namespace Go.Proofs.YtlpklloagaccoaaGreat
open Go.RowKit
set_option linter.unusedVariables false

theorem SetL.two {S : Int → Bool} {xs : List Int} (h : SetL S xs) (a b : Int) (hab : a ≠ b) (e : ∀ k, S k = true ↔ (k = a ∨ k = b)) : xs.length = 2 := by
  have ha : a ∈ xs := (h.mem a).2 ((e a).2 (.inl rfl))
  have hb : b ∈ xs := (h.mem b).2 ((e b).2 (.inr rfl))
  have hall : ∀ k ∈ xs, k = a ∨ k = b := fun k hk => (e k).1 ((h.mem k).1 hk)
  have hs := h.sorted
  match xs, ha, hb, hall, hs with
  | [], ha, _, _, _ => cases ha
  | [x], ha, hb, _, _ =>
    rw [List.mem_singleton] at ha hb
    exact absurd (ha.trans hb.symm) hab
  | [x, y], _, _, _, _ => rfl
  | x :: y :: z :: l, _, _, hall, hs =>
    have h1 := hall x (by simp)
    have h2 := hall y (by simp)
    have h3 := hall z (by simp)
    simp only [List.pairwise_cons, List.mem_cons] at hs
    have k1 := hs.1 y (.inl rfl)
    have k2 := hs.1 z (.inr (.inl rfl))
    have k3 := hs.2.1 z (.inl rfl)
    omega
theorem mk_bytes (n : Nat) (hn : n ≤ 1048576) (W : World) : (Instr.makeSlice 42 (.int .i64 (n : Nat)) (.int .i64 (n : Nat))).run Tryz.prog W = .ok (.slice (some ⟨W.heap.size, 0, none⟩) n n) (W.alloc (.cells (madeCells #[Value.int .u8 0] n) 5)) := by
  obtain ⟨i8, hi8, hz8, hs8, hb8⟩ := elU8.info
  have := run_make (P := Tryz.prog) W 42 5 i8 (.int .u8 0) Tryz.underlying42 hi8 hz8 .i64 .i64 (n : Nat) (n : Nat) (by omega) (Int.le_refl _) (by rw [hb8]; omega) (by omega)
  rw [Int.toNat_natCast, hs8, Nat.mul_one] at this
  exact this
theorem BSl.made {o : Own} (w : World) (ho : Owned o w) (n : Nat) {a : Nat} (ha : a = w.heap.size) : BSl o (w.alloc (.cells (madeCells #[Value.int .u8 0] n) 5)) (.slice (some ⟨a, 0, none⟩) n n) n (fun _ => 0) := by
  subst ha
  exact (BytesB.made w n).bsl (ho _ (Nat.le_refl _)) (fun _ _ => by omega)
section
variable {o : Own} {p N t : Nat} {ob : Int → Option Ob}
theorem tx_no (h : Int) (w0 w1 : World) (F : Fr 0 0 o o w0 w1) (X : Tx o w0 p N t ob) (hx : ob h = none) :
    Calls Tryz.prog 73 #[.pointer (some ⟨p, 0, none⟩), .int .i64 h] w1 fun e w' => e = .returned (.tuple #[.slice none 0 0, .int .i64 5]) ∧ Fr 0 0 o o w0 w' := by
  obtain ⟨S, E, h1, h2, h3, h4⟩ := X
  exact (text_no h w1 F.fresh (E.keep F (.inr (Nat.zero_le _))) (by unfold kindA; rw [h4, hx]; exact fun e => by cases e)).mono fun e w' hh => ⟨hh.1, F.below hh.2⟩
theorem tx_all2 (a b : Int) (x y : Ob) (w0 w1 : World) (F : Fr 0 0 o o w0 w1) (X : Tx o w0 p N t (updI (updI (fun _ => none) a (some x)) b (some y))) (hab : a ≠ b) :
    Calls Tryz.prog 74 #[.pointer (some ⟨p, 0, none⟩)] w1 fun e w' => ∃ A cap, e = .returned (.slice A 2 cap) ∧ Fr 0 0 o o w0 w' := by
  obtain ⟨S, E, _, _, _, h4⟩ := X
  refine (rall w1 (by omega) F.fresh (E.keep F (.inr (Nat.zero_le _)))).mono fun e w' hh => ?_
  obtain ⟨A, cap, hs, k1, k2, k3, _, _⟩ := hh
  have hl := k2.two a b hab (fun k => by
    rw [h4]
    unfold isOb updI
    by_cases e1 : k = b
    · rw [if_pos e1]; simp [e1]
    · rw [if_neg e1]
      by_cases e2 : k = a
      · rw [if_pos e2]; simp [e2]
      · rw [if_neg e2]; simp [e1, e2])
  rw [hl] at k1
  exact ⟨A, cap, k1, F.trans k3⟩
end
set_option maxRecDepth 100000 in
theorem lim_out (n m : Int) (w : World) (h : n < 0 ∨ 4200 < n ∨ m < 0 ∨ 4200 < m) :
    Calls Tryz.prog 14 #[.int .i64 n, .int .i64 m] w fun e w' => e = .returned (.bool true) ∧ Below w.heap.size w w' := by
  have HA := Lib.hid (alive16 w)
  have hn : n < 0 ∨ (¬ n < 0 ∧ 4200 < n) ∨ (¬ n < 0 ∧ ¬ 4200 < n ∧ m < 0) ∨ (¬ n < 0 ∧ ¬ 4200 < n ∧ ¬ m < 0 ∧ 4200 < m) := by omega
  clear h
  rcases hn with h0 | ⟨h0, h3⟩ | ⟨h0, h3, h4⟩ | ⟨h0, h3, h4, h5⟩
  all_goals
    go_enter Tryz.func14, Tryz.ntmps14
    go_wp2_with fail
    go_at_call 70
    refine HA.out.mono ?_
    rintro e w1 ⟨rfl, hb⟩
    have HB := Lib.hid hb
    clear hb
    go_wp2_with fail
    go_ret
    exact ⟨rfl, HB.out⟩
set_option maxRecDepth 100000 in
set_option maxHeartbeats 4000000 in
theorem lim_nn (n m : Nat) (w : World) (hn : 4000 < n) (hn2 : n ≤ 4200) (hm : 4000 < m) (hm2 : m ≤ 4200) :
    Calls Tryz.prog 14 #[.int .i64 (n : Nat), .int .i64 (m : Nat)] w fun e w' => e = .returned (.bool true) ∧ Below w.heap.size w w' := by
  have HA := Lib.hid (alive16 w)
  have HN := Lib.hid (fun (o : Own) (w1 : World) (ho : Owned o w1) => show Calls Tryz.prog 27 #[.int .i64 200, .int .i64 0, .int .i64 100] w1 (EngNew o w1 1 200 100) from eng_new 1 200 100 w1 ho (by omega) (by omega) (by omega) (by omega))
  have hmn := mk_bytes n (by omega)
  have hmm := mk_bytes m (by omega)
  have h0 : ¬ (n : Int) < 0 := by omega
  have h1 : ¬ 4200 < (n : Int) := by omega
  have h2 : ¬ (m : Int) < 0 := by omega
  have h3 : ¬ 4200 < (m : Int) := by omega
  have h4 : ¬ (n : Int) ≤ 4000 := by omega
  have h5 : ¬ (m : Int) ≤ 4000 := by omega
  have HL := Lib.hid (And.intro hn (And.intro hn2 (And.intro hm (And.intro hm2 True.intro))))
  clear hn hm hn2 hm2
  go_enter Tryz.func14, Tryz.ntmps14
  go_wp2_with fail
  go_at_call 70
  refine HA.out.mono ?_
  rintro e w1 ⟨rfl, hb⟩
  have HF1 := Lib.hid (LF.of_below hb)
  clear hb
  go_wp2_with fail
  go_at_call 27
  refine (HN.out _ _ HF1.out.fresh).mono ?_
  rintro e w2 ⟨p, o2, rfl, F2, E2⟩
  have HF2 := Lib.hid (HF1.out.fr F2 (by omega))
  have HX2 := Lib.hid (Tx.new E2)
  clear F2 E2
  go_wp2_with fail
  go_at_call 37
  refine (text_long _ n n _ (by have := HL.out; omega) (by have := HL.out; unfold maxLen; omega)).mono ?_
  rintro e w3 ⟨rfl, rfl⟩
  go_wp2_with fail
  go_at_call 37
  refine (text_long _ m m _ (by have := HL.out; omega) (by have := HL.out; unfold maxLen; omega)).mono ?_
  rintro e w4 ⟨rfl, rfl⟩
  go_wp2_with (go_at_call 71; refine (num16 _ _).mono ?_; rintro e w' ⟨rfl, rfl⟩)
  go_ret
  exact ⟨rfl, ((HF2.out.alloc _).alloc _).tob⟩
set_option maxRecDepth 100000 in
set_option maxHeartbeats 4000000 in
theorem lim_yn (n m : Nat) (w : World) (hn : 0 ≤ n) (hn2 : n ≤ 4000) (hm : 4000 < m) (hm2 : m ≤ 4200) :
    Calls Tryz.prog 14 #[.int .i64 (n : Nat), .int .i64 (m : Nat)] w fun e w' => e = .returned (.bool true) ∧ Below w.heap.size w w' := by
  have HA := Lib.hid (alive16 w)
  have HN := Lib.hid (fun (o : Own) (w1 : World) (ho : Owned o w1) => show Calls Tryz.prog 27 #[.int .i64 200, .int .i64 0, .int .i64 100] w1 (EngNew o w1 1 200 100) from eng_new 1 200 100 w1 ho (by omega) (by omega) (by omega) (by omega))
  have hmn := mk_bytes n (by omega)
  have hmm := mk_bytes m (by omega)
  have h0 : ¬ (n : Int) < 0 := by omega
  have h1 : ¬ 4200 < (n : Int) := by omega
  have h2 : ¬ (m : Int) < 0 := by omega
  have h3 : ¬ 4200 < (m : Int) := by omega
  have h4 : (n : Int) ≤ 4000 := by omega
  have h5 : ¬ (m : Int) ≤ 4000 := by omega
  have HL := Lib.hid (And.intro hn (And.intro hn2 (And.intro hm (And.intro hm2 True.intro))))
  clear hn hm hn2 hm2
  go_enter Tryz.func14, Tryz.ntmps14
  go_wp2_with fail
  go_at_call 70
  refine HA.out.mono ?_
  rintro e w1 ⟨rfl, hb⟩
  have HF1 := Lib.hid (LF.of_below hb)
  clear hb
  go_wp2_with fail
  go_at_call 27
  refine (HN.out _ _ HF1.out.fresh).mono ?_
  rintro e w2 ⟨p, o2, rfl, F2, E2⟩
  have HF2 := Lib.hid (HF1.out.fr F2 (by omega))
  have HX2 := Lib.hid (Tx.new E2)
  clear F2 E2
  go_wp2_with fail
  go_at_call 37
  refine (tx_new _ n n (fun _ => 0) w2 _ (d := 8) ((Fr.refl HF2.out.fresh).alloc _) HX2.out (by have := HL.out; omega) (by omega) (by have := HL.out; omega) (BSl.made w2 HF2.out.fresh n rfl)).mono ?_
  rintro e w3 ⟨a, o3, rfl, F3, X3, _, ha3⟩
  have HF3 := Lib.hid (HF2.out.fr F3 (by omega))
  have HX3 := Lib.hid X3
  have HA3 := Lib.hid ha3
  clear F3 X3 ha3 HX2
  go_wp2_with fail
  go_at_call 37
  refine (text_long _ m m _ (by have := HL.out; omega) (by have := HL.out; unfold maxLen; omega)).mono ?_
  rintro e w4 ⟨rfl, rfl⟩
  go_wp2_with (go_at_call 71; refine (num16 _ _).mono ?_; rintro e w' ⟨rfl, rfl⟩)
  go_ret
  exact ⟨rfl, (HF3.out.alloc _).tob⟩
set_option maxRecDepth 100000 in
set_option maxHeartbeats 4000000 in
theorem lim_ny (n m : Nat) (w : World) (hn : 4000 < n) (hn2 : n ≤ 4200) (hm : 0 ≤ m) (hm2 : m ≤ 4000) :
    Calls Tryz.prog 14 #[.int .i64 (n : Nat), .int .i64 (m : Nat)] w fun e w' => e = .returned (.bool true) ∧ Below w.heap.size w w' := by
  have HA := Lib.hid (alive16 w)
  have HN := Lib.hid (fun (o : Own) (w1 : World) (ho : Owned o w1) => show Calls Tryz.prog 27 #[.int .i64 200, .int .i64 0, .int .i64 100] w1 (EngNew o w1 1 200 100) from eng_new 1 200 100 w1 ho (by omega) (by omega) (by omega) (by omega))
  have hmn := mk_bytes n (by omega)
  have hmm := mk_bytes m (by omega)
  have h0 : ¬ (n : Int) < 0 := by omega
  have h1 : ¬ 4200 < (n : Int) := by omega
  have h2 : ¬ (m : Int) < 0 := by omega
  have h3 : ¬ 4200 < (m : Int) := by omega
  have h4 : ¬ (n : Int) ≤ 4000 := by omega
  have h5 : (m : Int) ≤ 4000 := by omega
  have HL := Lib.hid (And.intro hn (And.intro hn2 (And.intro hm (And.intro hm2 True.intro))))
  clear hn hm hn2 hm2
  go_enter Tryz.func14, Tryz.ntmps14
  go_wp2_with fail
  go_at_call 70
  refine HA.out.mono ?_
  rintro e w1 ⟨rfl, hb⟩
  have HF1 := Lib.hid (LF.of_below hb)
  clear hb
  go_wp2_with fail
  go_at_call 27
  refine (HN.out _ _ HF1.out.fresh).mono ?_
  rintro e w2 ⟨p, o2, rfl, F2, E2⟩
  have HF2 := Lib.hid (HF1.out.fr F2 (by omega))
  have HX2 := Lib.hid (Tx.new E2)
  clear F2 E2
  go_wp2_with fail
  go_at_call 37
  refine (text_long _ n n _ (by have := HL.out; omega) (by have := HL.out; unfold maxLen; omega)).mono ?_
  rintro e w3 ⟨rfl, rfl⟩
  go_wp2_with fail
  go_at_call 37
  refine (tx_new _ m m (fun _ => 0) w2 _ (d := 8) (((Fr.refl HF2.out.fresh).alloc _).alloc _) HX2.out (by have := HL.out; omega) (by omega) (by have := HL.out; omega) (BSl.made (w2.alloc (.cells (madeCells #[Value.int .u8 0] n) 5)) ((Fr.refl (lo := 0) (hi := 0) HF2.out.fresh).alloc _).fresh m (by simp))).mono ?_
  rintro e w4 ⟨b, o4, rfl, F4, X4, _, hb4⟩
  have HF4 := Lib.hid (HF2.out.fr F4 (by omega))
  clear F4 X4 hb4 HX2
  go_wp2_with (go_at_call 71; refine (num16 _ _).mono ?_; rintro e w' ⟨rfl, rfl⟩)
  go_ret
  exact ⟨rfl, HF4.out.tob⟩
set_option maxRecDepth 100000 in
set_option maxHeartbeats 4000000 in
theorem lim_yl (n m : Nat) (w : World) (hn : 4000 < n + m) (hn2 : n ≤ 4000) (hm : 0 ≤ m) (hm2 : m ≤ 4000) :
    Calls Tryz.prog 14 #[.int .i64 (n : Nat), .int .i64 (m : Nat)] w fun e w' => e = .returned (.bool true) ∧ Below w.heap.size w w' := by
  have HA := Lib.hid (alive16 w)
  have HN := Lib.hid (fun (o : Own) (w1 : World) (ho : Owned o w1) => show Calls Tryz.prog 27 #[.int .i64 200, .int .i64 0, .int .i64 100] w1 (EngNew o w1 1 200 100) from eng_new 1 200 100 w1 ho (by omega) (by omega) (by omega) (by omega))
  have hmn := mk_bytes n (by omega)
  have hmm := mk_bytes m (by omega)
  have h0 : ¬ (n : Int) < 0 := by omega
  have h1 : ¬ 4200 < (n : Int) := by omega
  have h2 : ¬ (m : Int) < 0 := by omega
  have h3 : ¬ 4200 < (m : Int) := by omega
  have h4 : (n : Int) ≤ 4000 := by omega
  have h5 : (m : Int) ≤ 4000 := by omega
  have h6 : 4000 < (n : Int) + (m : Int) := by omega
  have HL := Lib.hid (And.intro hn (And.intro hn2 (And.intro hm (And.intro hm2 True.intro))))
  clear hn hm hn2 hm2
  go_enter Tryz.func14, Tryz.ntmps14
  go_wp2_with fail
  go_at_call 70
  refine HA.out.mono ?_
  rintro e w1 ⟨rfl, hb⟩
  have HF1 := Lib.hid (LF.of_below hb)
  clear hb
  go_wp2_with fail
  go_at_call 27
  refine (HN.out _ _ HF1.out.fresh).mono ?_
  rintro e w2 ⟨p, o2, rfl, F2, E2⟩
  have HF2 := Lib.hid (HF1.out.fr F2 (by omega))
  have HX2 := Lib.hid (Tx.new E2)
  clear F2 E2
  go_wp2_with fail
  go_at_call 37
  refine (tx_new _ n n (fun _ => 0) w2 _ (d := 8) ((Fr.refl HF2.out.fresh).alloc _) HX2.out (by have := HL.out; omega) (by omega) (by have := HL.out; omega) (BSl.made w2 HF2.out.fresh n rfl)).mono ?_
  rintro e w3 ⟨a, o3, rfl, F3, X3, _, ha3⟩
  have HF3 := Lib.hid (HF2.out.fr F3 (by omega))
  have HX3 := Lib.hid X3
  have HA3 := Lib.hid ha3
  clear F3 X3 ha3 HX2
  go_wp2_with fail
  go_at_call 37
  refine (tx_new _ m m (fun _ => 0) w3 _ (d := 8) ((Fr.refl HF3.out.fresh).alloc _) HX3.out (by have := HL.out; omega) (by omega) (by have := HL.out; omega) (BSl.made w3 HF3.out.fresh m rfl)).mono ?_
  rintro e w4 ⟨b, o4, rfl, F4, X4, hno, hb4⟩
  have HF4 := Lib.hid (HF3.out.fr F4 (by omega))
  have hab : (a : Int) ≠ (b : Int) := fun e => by
    rw [← e] at hno
    unfold updI at hno
    rw [if_pos rfl] at hno
    cases hno
  have HX4 := Lib.hid X4
  have HB := Lib.hid hab
  have hoa : (updI (updI (fun _ => none) (a : Int) (some (textOb n fun _ => 0))) (b : Int) (some (textOb m fun _ => 0))) (a : Int) = some (textOb n fun _ => 0) := by
    unfold updI
    rw [if_neg hab, if_pos rfl]
  have HOA := Lib.hid hoa
  have HB4 := Lib.hid hb4
  clear F4 X4 hb4 HX3 hno hab hoa
  go_wp2_with (go_at_call 71; refine (num16 _ _).mono ?_; rintro e w' ⟨rfl, rfl⟩)
  go_at_call 72
  refine (tx_catlong (a : Int) (b : Int) n m (fun _ => 0) (fun _ => 0) w4 _ (Fr.refl HF4.out.fresh) HX4.out HOA.out (if_pos rfl) HL.out.1 HL.out.2.1 HL.out.2.2.2.1).mono ?_
  rintro e w5 ⟨rfl, F5⟩
  have HF5 := Lib.hid F5
  clear F5
  go_wp2_with fail
  go_at_call 73
  refine (tx_no 0 w4 _ HF5.out HX4.out (by have := HA3.out; have := HB4.out; unfold updI; rw [if_neg (by omega), if_neg (by omega)])).mono ?_
  rintro e w6 ⟨rfl, F6⟩
  have HF6 := Lib.hid F6
  clear F6
  go_wp2_with (first | (go_at_call 71; refine (num16 _ _).mono ?_; rintro e w' ⟨rfl, rfl⟩) | (go_at_call 74; refine (tx_all2 _ _ _ _ w4 _ HF6.out HX4.out HB.out).mono ?_; rintro e w7 ⟨A7, cap7, rfl, F7⟩; have HF7 := Lib.hid F7; clear F7))
  go_ret
  exact ⟨rfl, (HF4.out.fr HF7.out (by omega)).tob⟩
set_option maxRecDepth 100000 in
set_option maxHeartbeats 4000000 in
theorem lim_yy (n m : Nat) (w : World) (hn : n + m ≤ 4000) (hn2 : n ≤ 4000) (hm : 0 ≤ m) (hm2 : m ≤ 4000) :
    Calls Tryz.prog 14 #[.int .i64 (n : Nat), .int .i64 (m : Nat)] w fun e w' => e = .returned (.bool true) ∧ Below w.heap.size w w' := by
  have HA := Lib.hid (alive16 w)
  have HN := Lib.hid (fun (o : Own) (w1 : World) (ho : Owned o w1) => show Calls Tryz.prog 27 #[.int .i64 200, .int .i64 0, .int .i64 100] w1 (EngNew o w1 1 200 100) from eng_new 1 200 100 w1 ho (by omega) (by omega) (by omega) (by omega))
  have hmn := mk_bytes n (by omega)
  have hmm := mk_bytes m (by omega)
  have h0 : ¬ (n : Int) < 0 := by omega
  have h1 : ¬ 4200 < (n : Int) := by omega
  have h2 : ¬ (m : Int) < 0 := by omega
  have h3 : ¬ 4200 < (m : Int) := by omega
  have h4 : (n : Int) ≤ 4000 := by omega
  have h5 : (m : Int) ≤ 4000 := by omega
  have h6 : ¬ 4000 < (n : Int) + (m : Int) := by omega
  have HL := Lib.hid (And.intro hn (And.intro hn2 (And.intro hm (And.intro hm2 True.intro))))
  clear hn hm hn2 hm2
  go_enter Tryz.func14, Tryz.ntmps14
  go_wp2_with fail
  go_at_call 70
  refine HA.out.mono ?_
  rintro e w1 ⟨rfl, hb⟩
  have HF1 := Lib.hid (LF.of_below hb)
  clear hb
  go_wp2_with fail
  go_at_call 27
  refine (HN.out _ _ HF1.out.fresh).mono ?_
  rintro e w2 ⟨p, o2, rfl, F2, E2⟩
  have HF2 := Lib.hid (HF1.out.fr F2 (by omega))
  have HX2 := Lib.hid (Tx.new E2)
  clear F2 E2
  go_wp2_with fail
  go_at_call 37
  refine (tx_new _ n n (fun _ => 0) w2 _ (d := 8) ((Fr.refl HF2.out.fresh).alloc _) HX2.out (by have := HL.out; omega) (by omega) (by have := HL.out; omega) (BSl.made w2 HF2.out.fresh n rfl)).mono ?_
  rintro e w3 ⟨a, o3, rfl, F3, X3, _, ha3⟩
  have HF3 := Lib.hid (HF2.out.fr F3 (by omega))
  have HX3 := Lib.hid X3
  have HA3 := Lib.hid ha3
  clear F3 X3 ha3 HX2
  go_wp2_with fail
  go_at_call 37
  refine (tx_new _ m m (fun _ => 0) w3 _ (d := 8) ((Fr.refl HF3.out.fresh).alloc _) HX3.out (by have := HL.out; omega) (by omega) (by have := HL.out; omega) (BSl.made w3 HF3.out.fresh m rfl)).mono ?_
  rintro e w4 ⟨b, o4, rfl, F4, X4, hno, hb4⟩
  have HF4 := Lib.hid (HF3.out.fr F4 (by omega))
  have hab : (a : Int) ≠ (b : Int) := fun e => by
    rw [← e] at hno
    unfold updI at hno
    rw [if_pos rfl] at hno
    cases hno
  have HX4 := Lib.hid X4
  have HB := Lib.hid hab
  have hoa : (updI (updI (fun _ => none) (a : Int) (some (textOb n fun _ => 0))) (b : Int) (some (textOb m fun _ => 0))) (a : Int) = some (textOb n fun _ => 0) := by
    unfold updI
    rw [if_neg hab, if_pos rfl]
  have HOA := Lib.hid hoa
  have HB4 := Lib.hid hb4
  clear F4 X4 hb4 HX3 hno hab hoa
  go_wp2_with (go_at_call 71; refine (num16 _ _).mono ?_; rintro e w' ⟨rfl, rfl⟩)
  go_at_call 72
  refine (tx_cat (a : Int) (b : Int) n m (fun _ => 0) (fun _ => 0) w4 _ (Fr.refl HF4.out.fresh) HX4.out (by omega) HOA.out (if_pos rfl) HL.out.1 (fun _ _ => by omega) (fun _ _ => by omega)).mono ?_
  rintro e w5 ⟨c, o5, rfl, F5, X5, _, _⟩
  have HF5 := Lib.hid (HF4.out.fr F5 (by omega))
  have HX5 := Lib.hid X5
  clear F5 X5
  go_wp2_with fail
  go_at_call 73
  refine (tx_bytes (c : Int) (n + m) (joinF n (fun _ => 0) (fun _ => 0)) w5 _ (Fr.refl HF5.out.fresh) HX5.out (if_pos rfl)).mono ?_
  rintro e w6 ⟨g, rfl, F6, _, _⟩
  have HF6 := Lib.hid (HF5.out.fr F6 (by omega))
  clear F6
  have hsum : ((n + m : Nat) : Int) = (n : Int) + (m : Int) := by omega
  go_wp2_with (go_at_call 71; refine (num16 _ _).mono ?_; rintro e w' ⟨rfl, rfl⟩)
  go_ret
  exact ⟨rfl, HF6.out.tob⟩
theorem limits_walk (n m : Int) (w : World) : Calls Tryz.prog 14 #[.int .i64 n, .int .i64 m] w fun e w' => e = .returned (.bool true) ∧ Below w.heap.size w w' := by
  by_cases h : n < 0 ∨ 4200 < n ∨ m < 0 ∨ 4200 < m
  · exact lim_out n m w h
  · obtain ⟨k, rfl⟩ := Int.eq_ofNat_of_zero_le (show 0 ≤ n by omega)
    obtain ⟨l, rfl⟩ := Int.eq_ofNat_of_zero_le (show 0 ≤ m by omega)
    by_cases h1 : k ≤ 4000 <;> by_cases h2 : l ≤ 4000
    · by_cases h3 : k + l ≤ 4000
      · exact lim_yy k l w h3 h1 (by omega) h2
      · exact lim_yl k l w (by omega) h1 (by omega) h2
    · exact lim_yn k l w (by omega) h1 (by omega) (by omega)
    · exact lim_ny k l w (by omega) (by omega) (by omega) h2
    · exact lim_nn k l w (by omega) (by omega) (by omega) (by omega)
end Go.Proofs.YtlpklloagaccoaaGreat
